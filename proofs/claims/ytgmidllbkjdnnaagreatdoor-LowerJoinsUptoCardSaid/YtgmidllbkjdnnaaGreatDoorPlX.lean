/- May the steps of a plan be: the reference's. -/
import Derived.Test.YtgmidllbkjdnnaaGreatDoorPlU
namespace Go.Proofs.YtgmidllbkjdnnaaGreatDoor.W
open Go.Proofs.YtgmidllbkjdnnaaGreatDoor.Flat
set_option linter.unusedVariables false
set_option linter.unusedSimpArgs false
theorem znL {X:ByteArray} {k:Nat} (hk:((List.range 52).all fun i=>((if 1≤i then gl0.getD i ByteArray.empty else ByteArray.mk #[]).toList==X.toList)==(i==k))=true) (h0:((ByteArray.mk #[]).toList==X.toList)=false) (hk1:1≤k∧k≤51) (op:Int):((nmF op).toList==X.toList)=(op==(k:Int)):=by
 unfold nmF
 by_cases h:1≤op∧op≤51
 ·rw[if_pos h]
  have h1:=List.all_eq_true.1 hk op.toNat (List.mem_range.2 (by omega))
  rw[if_pos (by omega)]at h1
  rw[beq_iff_eq.1 h1,Bool.eq_iff_iff,beq_iff_eq,beq_iff_eq]
  omega
 ·rw[if_neg h,h0]
  symm
  rw[beq_eq_false_iff_ne]
  omega
theorem zpg (op:Int):((nmF op).toList==(ByteArray.mk #[79,114,100,101,114]).toList)=(op==40):=znL (k:=40) (by kernel_rfl) (by kernel_rfl) (by omega) op
theorem zph (op:Int):((nmF op).toList==(ByteArray.mk #[67,111,110,115,116,97,110,116]).toList)=(op==15):=znL (k:=15) (by kernel_rfl) (by kernel_rfl) (by omega) op
theorem zqz (op:Int):((nmF op).toList==(ByteArray.mk #[72,97,115]).toList)=(op==18):=znL (k:=18) (by kernel_rfl) (by kernel_rfl) (by omega) op
theorem zqP (op:Int):((nmF op).toList==(ByteArray.mk #[73,115]).toList)=(op==22):=znL (k:=22) (by kernel_rfl) (by kernel_rfl) (by omega) op
theorem zos (v:List zh):Ev fun n=>(tab n).zbO v []=some (v.length==0):=by
 refine Ev.step ((Ev.ge 1).mono fun n hn=> ?_)
 obtain⟨n,rfl⟩:∃j,n=j+1:=⟨n-1,by omega⟩
 rw[zhw]
 cases v with
 | nil=>simp[zbO,zbF]
 | cons x xs=>
  rw[zbO,if_pos (by simp;omega)]
  simp
theorem zot (p:GPred):Ev fun n=>(tab n).zb5 p (.mk 0 [] [])=some (ze0 p):=by
 obtain⟨k,v,q⟩:=p
 refine Ev.step (((zos v).and (Ev.ge 1)).mono fun n hh=> ?_)
 obtain⟨h1,h2⟩:=hh
 obtain⟨n,rfl⟩:∃j,n=j+1:=⟨n-1,by omega⟩
 rw[zjV]
 simp only[zb5,h1,ze0]
 by_cases hk:k=0
 ·subst hk
  rw[if_neg (by simp)]
  cases v with
  | nil=>
   cases q with
   | nil=>simp[zev,zdH]
   | cons x xs=>
    rw[if_pos (by simp),if_pos (by simp;omega)]
    simp
  | cons x xs=>simp
 ·rw[if_pos (by simpa using hk)]
  simp[hk]
section
variable {t:Tab} {n:Nat} {l:List GStep} {dp i op:Int} {S As:List ByteArray} {N:List Int} {v1 v2:Int} {v3:ByteArray} {v4 v5:List zh} {p1:Int} {p2:List zh} {p3:List GPred} {Ts:List (List GStep)} {By:List GBy} {R:List GStep→Bool}
theorem zp9 (H:∀u∈Ts,t.zaT u (IntKind.wrap .i64 (dp+1))=some (R u)) (hl:Ts.length≤4194304):∀(d j K:Nat),j+d=Ts.length→d < K→
  ((Ts.drop j).all R=true∧∃z c,zbr t n K l dp i (j:Int) op S N v1 v2 v3 v4 v5 p1 p2 p3 Ts By As=some (.inr (l,dp,i,z,c,op,S,N,v1,v2,v3,v4,v5,p1,p2,p3,Ts,By,As)))∨((Ts.drop j).all R=false∧zbr t n K l dp i (j:Int) op S N v1 v2 v3 v4 v5 p1 p2 p3 Ts By As=some (.inl false))
 | 0,j,K,hi,hk=>by
  obtain⟨K,rfl⟩:∃j,K=j+1:=⟨K-1,by omega⟩
  exact .inl ⟨by rw[List.drop_of_length_le (by omega)];rfl,_,_,by rw[zbr,if_neg (by simp;omega)]⟩
 | d+1,j,K,hi,hk=>by
  obtain⟨K,rfl⟩:∃j,K=j+1:=⟨K-1,by omega⟩
  obtain⟨y,y1,y3,y2⟩:=at_ (l:=Ts) (i:=j) (by omega)
  have ih:=zp9 H hl d (j+1) K (by omega) (by omega)
  rw[zbr,if_pos (by simp;omega),if_pos (by simp),Int.toNat_natCast,y1,y2,wr1 (i:=j) (L:=Ts.length) (by omega) (by omega),List.all_cons]
  simp only[H y y3]
  cases R y with
  | true=>rw[if_pos rfl,Bool.true_and];exact ih
  | false=>rw[if_neg (by simp),Bool.false_and];exact .inr ⟨rfl,rfl⟩
theorem zqa (hN:t.zaU op=some (nmF op)) (H:∀u∈By,t.zeb u (op==40) dp=some (byF R (op==40) u)) (hl:By.length≤4194304):∀(d j K:Nat),j+d=By.length→d < K→
  ((By.drop j).all (byF R (op==40))=true∧∃z c,zbI t n K l dp i (j:Int) op S N v1 v2 v3 v4 v5 p1 p2 p3 Ts By As=some (.inr (l,dp,i,z,c,op,S,N,v1,v2,v3,v4,v5,p1,p2,p3,Ts,By,As)))∨((By.drop j).all (byF R (op==40))=false∧zbI t n K l dp i (j:Int) op S N v1 v2 v3 v4 v5 p1 p2 p3 Ts By As=some (.inl false))
 | 0,j,K,hi,hk=>by
  obtain⟨K,rfl⟩:∃j,K=j+1:=⟨K-1,by omega⟩
  exact .inl ⟨by rw[List.drop_of_length_le (by omega)];rfl,_,_,by rw[zbI,if_neg (by simp;omega)]⟩
 | d+1,j,K,hi,hk=>by
  obtain⟨K,rfl⟩:∃j,K=j+1:=⟨K-1,by omega⟩
  obtain⟨y,y1,y3,y2⟩:=at_ (l:=By) (i:=j) (by omega)
  have ih:=zqa hN H hl d (j+1) K (by omega) (by omega)
  have hy:=H y y3
  rw[zbI,if_pos (by simp;omega),if_pos (by simp),Int.toNat_natCast,y1,y2,wr1 (i:=j) (L:=By.length) (by omega) (by omega),List.all_cons]
  clear y1 y2 y3
  obtain⟨k,s,T,d0⟩:=y
  simp only[hN,zpg,hy]
  cases byF R (op==40) (GBy.mk k s T d0)with
  | true=>rw[if_pos rfl,Bool.true_and];exact ih
  | false=>rw[if_neg (by simp),Bool.false_and];exact .inr ⟨rfl,rfl⟩
theorem zqQ (hN : t.zaU op = some (nmF op)) (HT : ∀ u ∈ Ts, t.zaT u (IntKind.wrap .i64 (dp + 1)) = some (R u)) (hT : Ts.length ≤ 4194304) (HB : ∀ u ∈ By, t.zeb u (op == 40) dp = some (byF R (op == 40) u)) (hB : By.length ≤ 4194304) (hn : Ts.length + By.length < n) :
  zaK t n l dp i op S N v1 v2 v3 v4 v5 p1 p2 p3 Ts By As=some (if (Ts.all R&&By.all (byF R (op==40)))=true then .inr (l,dp,i)else .inl false):=by
 rw[zaK]
 rcases zp9 (n:=n) (l:=l) (i:=i) (op:=op) (S:=S) (As:=As) (N:=N) (v1:=v1) (v2:=v2) (v3:=v3) (v4:=v4) (v5:=v5) (p1:=p1) (p2:=p2) (p3:=p3) (By:=By) HT hT Ts.length 0 n (by omega) (by omega)with ⟨h,z,c,g⟩ | ⟨h,g⟩
 ·rw[show((0:Nat):Int)=0 from rfl]at g
  rw[List.drop_zero]at h
  simp only[g,h,Bool.true_and]
  rw[zd4]
  rcases zqa (n:=n) (l:=l) (i:=i) (S:=S) (As:=As) (N:=N) (v1:=v1) (v2:=v2) (v3:=v3) (v4:=v4) (v5:=v5) (p1:=p1) (p2:=p2) (p3:=p3) (Ts:=Ts) hN HB hB By.length 0 n (by omega) (by omega)with ⟨h',z',c',g'⟩ | ⟨h',g'⟩
  ·rw[show((0:Nat):Int)=0 from rfl]at g'
   rw[List.drop_zero]at h'
   simp only[g',h',if_true]
  ·rw[show((0:Nat):Int)=0 from rfl]at g'
   rw[List.drop_zero]at h'
   simp[g',h']
 ·rw[show((0:Nat):Int)=0 from rfl]at g
  rw[List.drop_zero]at h
  simp[g,h]
theorem zqb {a b ov op' q1 q2 : Bool} {X : Option (Bool ⊕ (List GStep × Int × Int))} (hV : t.zcD (.mk v1 v2 v3 v4 v5) (.mk 0 0 ByteArray.empty [] []) = some q1) (hP : t.zb5 (.mk p1 p2 p3) (.mk 0 [] []) = some q2)
  (hJ:zaK t n l dp i op S N v1 v2 v3 v4 v5 p1 p2 p3 Ts By As=X):
  zcC t n l dp i (if ov then 0 else 2) (if op' then 0 else 2) a b op S N v1 v2 v3 v4 v5 p1 p2 p3 Ts By As=if ((if a then ov else q1)&&(if b then op' else q2))=true then X else some (.inl false):=by
 rw[zcC,hV,hP,hJ]
 cases a<;>cases b<;>cases ov<;>cases op'<;>cases q1<;>cases q2<;>simp
theorem zqR {ov op' q1 q2 : Bool} {X : Option (Bool ⊕ (List GStep × Int × Int))} (hN : t.zaU op = some (nmF op)) (hCv : t.zce (.mk v1 v2 v3 v4 v5) = some (if ov then 0 else 2)) (hCp : t.zdB (.mk p1 p2 p3) = some (if op' then 0 else 2))
  (hV:t.zcD (.mk v1 v2 v3 v4 v5) (.mk 0 0 ByteArray.empty [] [])=some q1) (hP:t.zb5 (.mk p1 p2 p3) (.mk 0 [] [])=some q2)
  (hJ:zaK t n l dp i op S N v1 v2 v3 v4 v5 p1 p2 p3 Ts By As=X):
  zbs t n l dp i op S N v1 v2 v3 v4 v5 p1 p2 p3 Ts By As=if ((if (op==15)then ov else q1)&&(if (op==18||op==22)then op' else q2))=true then X else some (.inl false):=by
 rw[zbs,hCv]
 dsimp only
 rw[hCp]
 dsimp only
 rw[hN]
 dsimp only
 rw[zqz,zph,zqP,zqb hV hP hJ,zqb hV hP hJ]
 cases (op==18)<;>simp
theorem zqc (H : ∀ x ∈ l, ∃ q c : Bool, t.zai x = some q ∧ t.zbB (sOf x) = some (zdu (sOf x)) ∧ t.zbB (asOf x) = some (zdu (asOf x)) ∧ (∀ (i : Int) (op : Int) S N v1 v2 v3 v4 v5 p1 p2 p3 Ts By As, x = .mk op S N (.mk v1 v2 v3 v4 v5) (.mk p1 p2 p3) Ts By As → zbs t n l dp i op S N v1 v2 v3 v4 v5 p1 p2 p3 Ts By As = if c = true then some (.inr (l, dp, i)) else some (.inl false)) ∧ (q && zdu (sOf x) && zdu (asOf x) && c) = stepF R x) (hl : l.length ≤ 4194304) :
  ∀(d j K:Nat),j+d=l.length→d < K→((l.drop j).all (stepF R)=true∧∃z,zbJ t n K l dp (j:Int)=some (.inr (l,dp,z)))∨((l.drop j).all (stepF R)=false∧zbJ t n K l dp (j:Int)=some (.inl false))
 | 0,j,K,hi,hk=>by
  obtain⟨K,rfl⟩:∃j,K=j+1:=⟨K-1,by omega⟩
  exact .inl ⟨by rw[List.drop_of_length_le (by omega)];rfl,_,by rw[zbJ,if_neg (by simp;omega)]⟩
 | d+1,j,K,hi,hk=>by
  obtain⟨K,rfl⟩:∃j,K=j+1:=⟨K-1,by omega⟩
  obtain⟨x,x1,x3,x2⟩:=at_ (l:=l) (i:=j) (by omega)
  have ih:=zqc H hl d (j+1) K (by omega) (by omega)
  obtain⟨q,c,h1,h2,h3,h4,h5⟩:=H x x3
  rw[zbJ,if_pos (by simp;omega),if_pos (by simp),Int.toNat_natCast,x1,x2,List.all_cons,←h5]
  clear x1 x2 x3 h5 H
  obtain⟨op,S,N,⟨v1,v2,v3,v4,v5⟩,⟨p1,p2,p3⟩,Ts,By,As⟩:=x
  have h4:=h4 (j:Int) op S N v1 v2 v3 v4 v5 p1 p2 p3 Ts By As rfl
  simp only[sOf,asOf]at h2 h3⊢
  simp only[h1,h2,h3,h4]
  cases q with
  | false=>simp
  | true=>
   cases zdu S with
   | false=>simp
   | true=>
    cases zdu As with
    | false=>simp
    | true=>
     cases c with
     | false=>simp
     | true=>
      simp only[if_true,Bool.true_and,Bool.and_true]
      rw[wr1 (i:=j) (L:=l.length) (by omega) (by omega)]
      exact ih
end
end Go.Proofs.YtgmidllbkjdnnaaGreatDoor.W

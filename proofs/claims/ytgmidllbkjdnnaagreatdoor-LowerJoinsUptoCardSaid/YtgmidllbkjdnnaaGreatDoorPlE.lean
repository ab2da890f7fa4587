/- May steps be? -/
import Derived.Test.YtgmidllbkjdnnaaGreatDoorPlD
namespace Go.Proofs.YtgmidllbkjdnnaaGreatDoor.W
open Go.Proofs.YtgmidllbkjdnnaaGreatDoor.Flat
set_option linter.unusedVariables false
set_option linter.unusedSimpArgs false
def byF (R:List GStep→Bool) (order:Bool) (b:GBy):Bool:=
 (!bD b||order)&&(bK b==2||(bKey b).size==0)&&(bK b==3||(bT b).length==0)&&(bK b==1||(bK b==2&&nameF (bKey b))||(bK b==3&&R (bT b)))
theorem zqL {t:Tab} {n:Nat} {b:GBy} {order:Bool} {dp:Int} {R:List GStep→Bool} (hg:t.zdt (bKey b)=some (nameF (bKey b))) (hR:t.za9 (bT b) (IntKind.wrap .i64 (dp+1))=some (R (bT b))):zet t n b order dp=some (byF R order b):=by
 cases b with
 | mk k s l d=>
  simp only[bKey,bT]at hg hR
  simp only[zet,byF,bK,bKey,bT,bD,ziy]
  have e1:(decide ((l.length:Int) > 0))= !(l.length==0):=by
   by_cases h:l.length=0
   ·simp[h]
   ·have h2:0 < l.length:=by omega
    simp[h2,h]
  have e2:decide (s.size=0)=(s.size==0):=by rw[Bool.eq_iff_iff];simp
  simp only[e1,e2]
  have hj:zbV t n dp k s l d=some (k==1||(k==2&&nameF s)||(k==3&&R l)):=by
   rw[zbV,hg,hR]
   by_cases k1:k=1
   ·subst k1;simp
   ·by_cases k2:k=2
    ·subst k2;simp
    ·by_cases k3:k=3
     ·subst k3;simp
     ·have q1:(k==1)=false:=by simpa using k1
      have q2:(k==2)=false:=by simpa using k2
      have q3:(k==3)=false:=by simpa using k3
      simp[q1,q2,q3]
  simp only[hj]
  generalize (k==1||(k==2&&nameF s)||(k==3&&R l))=q
  have b2:(k !=2)= !(k==2):=rfl
  have b3:(k !=3)= !(k==3):=rfl
  rw[b2,b3]
  generalize (k==2)=x2
  generalize (k==3)=x3
  generalize (s.size==0)=z1
  generalize (l.length==0)=z2
  cases d<;>cases order<;>cases x2<;>cases x3<;>cases z1<;>cases z2<;>rfl
def zv:zh:=.mk 0 0 ByteArray.empty [] []
def zdy (x:GStep):zm→Bool
 | .mk s n t b _ _=>inR (sOf x).length s&&inR (nOf x).length n&&inR (tOf x).length t&&inR (byOf x).length b&&decide ((asOf x).length≤50)
def restF (R:List GStep→Bool) (x:GStep):zm→Bool
 | .mk _ _ _ _ v p=> !((sOf x).any fun s=> !nameF s)&& !((asOf x).any fun s=> !nameF s)&&numF x&&(if v=true then okV (vOf x)else cmp (vOf x) zv==0)&&(if p=true then okP (pOf x)else ze0 (pOf x))&& !(opOf x==43&&(zbg (sOf x)||decide ((byOf x).length > (sOf x).length)))
def shF (op:Int):zm:=shL.getD op.toNat (.mk (.mk 0 0) (.mk 0 0) (.mk 0 0) (.mk 0 0) false false)
def stepF (R:List GStep→Bool) (x:GStep):Bool:=
 decide (1≤opOf x∧opOf x≤51)&&zdy x (shF (opOf x))&&restF R x (shF (opOf x))&&(tOf x).all R&&(byOf x).all (byF R (opOf x==40))
section
variable {t:Tab} {n:Nat}
theorem znD {dp op:Int} {S As:List ByteArray} {N:List Int} {v1 v2:Int} {v3:ByteArray} {v4 v5:List zh} {p1:Int} {p2:List zh} {p3:List GPred} {Ts:List (List GStep)} {By:List GBy} {R:List GStep→Bool} (H:∀u∈Ts,t.za9 u (IntKind.wrap .i64 (dp+1))=some (R u)) (hl:Ts.length≤2097152):∀(d i K:Nat),i+d=Ts.length→d < K→((Ts.drop i).all R=true∧∃z1 z2 z3 z4,zc2 t n K dp Ts (Ts.length:Int) (i:Int) op S N v1 v2 v3 v4 v5 p1 p2 p3 Ts By As=some (.inr (dp,z1,z2,z3,z4,op,S,N,v1,v2,v3,v4,v5,p1,p2,p3,Ts,By,As)))∨((Ts.drop i).all R=false∧zc2 t n K dp Ts (Ts.length:Int) (i:Int) op S N v1 v2 v3 v4 v5 p1 p2 p3 Ts By As=some (.inl false))
 | 0,i,K,hi,hk=>by
  obtain⟨K,rfl⟩:∃j,K=j+1:=⟨K-1,by omega⟩
  exact .inl ⟨by rw[List.drop_of_length_le (by omega)];rfl,_,_,_,_,by rw[zc2,if_neg (by simp;omega)]⟩
 | d+1,i,K,hi,hk=>by
  obtain⟨K,rfl⟩:∃j,K=j+1:=⟨K-1,by omega⟩
  obtain⟨x,x1,x3,x2⟩:=at_ (l:=Ts) (i:=i) (by omega)
  have hx:=H x x3
  have ih:=znD (op:=op) (S:=S) (As:=As) (N:=N) (v1:=v1) (v2:=v2) (v3:=v3) (v4:=v4) (v5:=v5) (p1:=p1) (p2:=p2) (p3:=p3) (By:=By) H hl d (i+1) K (by omega) (by omega)
  rw[zc2,if_pos (by simp;omega),if_pos (by simp),Int.toNat_natCast,x1,x2,wr1 (i:=i) (L:=Ts.length) (by omega) (by omega),List.all_cons]
  simp only[hx]
  generalize R x=q
  cases q
  ·rw[if_neg (by simp),Bool.false_and]
   exact .inr ⟨rfl,rfl⟩
  ·rw[if_pos rfl,Bool.true_and]
   exact ih
theorem znE {dp op:Int} {S As:List ByteArray} {N:List Int} {v1 v2:Int} {v3:ByteArray} {v4 v5:List zh} {p1:Int} {p2:List zh} {p3:List GPred} {Ts:List (List GStep)} {By:List GBy} {B:GBy→Bool} (H:∀u∈By,t.zet u (op==40) dp=some (B u)) (hl:By.length≤2097152):∀(d i K:Nat),i+d=By.length→d < K→((By.drop i).all B=true∧∃z,zc3 t n K dp By (By.length:Int) (i:Int) op S N v1 v2 v3 v4 v5 p1 p2 p3 Ts By As=some (.inr z))∨((By.drop i).all B=false∧zc3 t n K dp By (By.length:Int) (i:Int) op S N v1 v2 v3 v4 v5 p1 p2 p3 Ts By As=some (.inl false))
 | 0,i,K,hi,hk=>by
  obtain⟨K,rfl⟩:∃j,K=j+1:=⟨K-1,by omega⟩
  exact .inl ⟨by rw[List.drop_of_length_le (by omega)];rfl,_,by rw[zc3,if_neg (by simp;omega)]⟩
 | d+1,i,K,hi,hk=>by
  obtain⟨K,rfl⟩:∃j,K=j+1:=⟨K-1,by omega⟩
  obtain⟨x,x1,x3,x2⟩:=at_ (l:=By) (i:=i) (by omega)
  have hx:=H x x3
  have ih:=znE (S:=S) (As:=As) (N:=N) (v1:=v1) (v2:=v2) (v3:=v3) (v4:=v4) (v5:=v5) (p1:=p1) (p2:=p2) (p3:=p3) (Ts:=Ts) H hl d (i+1) K (by omega) (by omega)
  rw[zc3,if_pos (by simp;omega),if_pos (by simp),Int.toNat_natCast,x1,x2,wr1 (i:=i) (L:=By.length) (by omega) (by omega),List.all_cons]
  generalize B x=q at hx⊢
  clear x1 x2 x3
  cases x
  simp only[hx]
  cases q
  ·rw[if_neg (by simp),Bool.false_and]
   exact .inr ⟨rfl,rfl⟩
  ·rw[if_pos rfl,Bool.true_and]
   exact ih
theorem zpJ {dp op : Int} {S As : List ByteArray} {N : List Int} {v1 v2 : Int} {v3 : ByteArray} {v4 v5 : List zh} {p1 : Int} {p2 : List zh} {p3 : List GPred} {Ts : List (List GStep)} {By : List GBy} {R : List GStep → Bool} {B : GBy → Bool} (HT : ∀ u ∈ Ts, t.za9 u (IntKind.wrap .i64 (dp + 1)) = some (R u)) (hT : Ts.length ≤ 2097152) (HB : ∀ u ∈ By, t.zet u (op == 40) dp = some (B u)) (hB : By.length ≤ 2097152) (hn : Ts.length + By.length < n) :
  zcg t n dp op S N v1 v2 v3 v4 v5 p1 p2 p3 Ts By As=some (Ts.all R&&By.all B):=by
 rw[zcg]
 rcases znD (t:=t) (n:=n) (op:=op) (S:=S) (As:=As) (N:=N) (v1:=v1) (v2:=v2) (v3:=v3) (v4:=v4) (v5:=v5) (p1:=p1) (p2:=p2) (p3:=p3) (By:=By) HT hT Ts.length 0 n (by omega) (by omega)with ⟨h,z1,z2,z3,z4,g⟩ | ⟨h,g⟩
 ·rw[show((0:Nat):Int)=0 from rfl]at g
  rw[List.drop_zero]at h
  simp only[g,h,Bool.true_and]
  rw[zeK]
  rcases znE (t:=t) (n:=n) (S:=S) (As:=As) (N:=N) (v1:=v1) (v2:=v2) (v3:=v3) (v4:=v4) (v5:=v5) (p1:=p1) (p2:=p2) (p3:=p3) (Ts:=Ts) HB hB By.length 0 n (by omega) (by omega)with ⟨h',z,g'⟩ | ⟨h',g'⟩
  ·rw[show((0:Nat):Int)=0 from rfl]at g'
   rw[List.drop_zero]at h'
   simp only[g',h']
  ·rw[show((0:Nat):Int)=0 from rfl]at g'
   rw[List.drop_zero]at h'
   simp only[g',h']
 ·rw[show((0:Nat):Int)=0 from rfl]at g
  rw[List.drop_zero]at h
  simp only[g,h,Bool.false_and]
theorem znF {dp op:Int} {S As:List ByteArray} {N:List Int} {v1 v2:Int} {v3:ByteArray} {v4 v5:List zh} {p1:Int} {p2:List zh} {p3:List GPred} {Ts:List (List GStep)} {By:List GBy} {bad:Bool} (hW:t.zcN S=some (zbg S)):zcu t n dp bad op S N v1 v2 v3 v4 v5 p1 p2 p3 Ts By As=if (!bad&& !(op==43&&(zbg S||decide (By.length > S.length))))=true then some (.inr (dp,op,S,N,v1,v2,v3,v4,v5,p1,p2,p3,Ts,By,As))else some (.inl false):=by
 have e1:(decide ((By.length:Int) > (S.length:Int)))=decide (By.length > S.length):=by rw[Bool.eq_iff_iff,decide_eq_true_eq,decide_eq_true_eq];omega
 rw[zcu,e1,hW]
 cases bad with
 | true=>simp
 | false=>
  cases (op==43)with
  | false=>simp
  | true=>
   cases zbg S with
   | true=>simp
   | false=>cases decide (By.length > S.length)<;>simp
theorem znG {dp op:Int} {S As:List ByteArray} {N:List Int} {v1 v2:Int} {v3:ByteArray} {v4 v5:List zh} {p1:Int} {p2:List zh} {p3:List GPred} {Ts:List (List GStep)} {By:List GBy} {s1 s2 s3 s4 s5 s6 s7 s8:Int} {v p:Bool} {bad:Bool} (hP:t.zds (.mk p1 p2 p3)=some (if okP (.mk p1 p2 p3)then 0 else 2)) (hE:t.zc4 (.mk p1 p2 p3)=some (ze0 (.mk p1 p2 p3))) (hW:t.zcN S=some (zbg S)):zcv t n dp bad op S N v1 v2 v3 v4 v5 p1 p2 p3 Ts By As s1 s2 s3 s4 s5 s6 s7 s8 v p=if (!bad&&(if p=true then okP (.mk p1 p2 p3)else ze0 (.mk p1 p2 p3))&& !(op==43&&(zbg S||decide (By.length > S.length))))=true then some (.inr (dp,op,S,N,v1,v2,v3,v4,v5,p1,p2,p3,Ts,By,As))else some (.inl false):=by
 rw[zcv,hP,hE]
 cases bad with
 | true=>simp
 | false=>
  cases p with
  | false=>
   dsimp only
   simp only[znF hW]
   cases ze0 (.mk p1 p2 p3)<;>simp
  | true=>
   dsimp only
   simp only[znF hW]
   cases okP (.mk p1 p2 p3)<;>simp
theorem zpK {dp op:Int} {S As:List ByteArray} {N:List Int} {v1 v2:Int} {v3:ByteArray} {v4 v5:List zh} {p1:Int} {p2:List zh} {p3:List GPred} {Ts:List (List GStep)} {By:List GBy} {s1 s2 s3 s4 s5 s6 s7 s8:Int} {v p:Bool} {bad:Bool} (hV:t.zch (.mk v1 v2 v3 v4 v5)=some (if okV (.mk v1 v2 v3 v4 v5)then 0 else 2)) (hV0:t.zbU (.mk v1 v2 v3 v4 v5) (.mk 0 0 ByteArray.empty [] [])=some (cmp (.mk v1 v2 v3 v4 v5) zv==0)) (hP:t.zds (.mk p1 p2 p3)=some (if okP (.mk p1 p2 p3)then 0 else 2)) (hE:t.zc4 (.mk p1 p2 p3)=some (ze0 (.mk p1 p2 p3))) (hW:t.zcN S=some (zbg S)):zcw t n dp bad op S N v1 v2 v3 v4 v5 p1 p2 p3 Ts By As s1 s2 s3 s4 s5 s6 s7 s8 v p=if (!bad&&(if v=true then okV (.mk v1 v2 v3 v4 v5)else cmp (.mk v1 v2 v3 v4 v5) zv==0)&&(if p=true then okP (.mk p1 p2 p3)else ze0 (.mk p1 p2 p3))&& !(op==43&&(zbg S||decide (By.length > S.length))))=true then some (.inr (dp,op,S,N,v1,v2,v3,v4,v5,p1,p2,p3,Ts,By,As))else some (.inl false):=by
 rw[zcw,hV,hV0]
 cases bad with
 | true=>simp
 | false=>
  cases v with
  | false=>
   dsimp only
   simp only[znG hP hE hW]
   cases (cmp (.mk v1 v2 v3 v4 v5) zv==0)<;>simp
  | true=>
   dsimp only
   simp only[znG hP hE hW]
   cases okV (.mk v1 v2 v3 v4 v5)<;>simp
theorem zpL {dp op : Int} {S As : List ByteArray} {N : List Int} {v1 v2 : Int} {v3 : ByteArray} {v4 v5 : List zh} {p1 : Int} {p2 : List zh} {p3 : List GPred} {Ts : List (List GStep)} {By : List GBy} {R : List GStep → Bool} {s1 s2 s3 s4 s5 s6 s7 s8 : Int} {v p : Bool}
  (hS:t.zB S=some (S.any fun s=> !nameF s)) (hA:t.zB As=some (As.any fun s=> !nameF s))
  (hN:t.zbX (.mk op S N (.mk v1 v2 v3 v4 v5) (.mk p1 p2 p3) Ts By As)=some (numF (.mk op S N (.mk v1 v2 v3 v4 v5) (.mk p1 p2 p3) Ts By As)))
  (hV:t.zch (.mk v1 v2 v3 v4 v5)=some (if okV (.mk v1 v2 v3 v4 v5)then 0 else 2)) (hV0:t.zbU (.mk v1 v2 v3 v4 v5) (.mk 0 0 ByteArray.empty [] [])=some (cmp (.mk v1 v2 v3 v4 v5) zv==0))
  (hP:t.zds (.mk p1 p2 p3)=some (if okP (.mk p1 p2 p3)then 0 else 2)) (hE:t.zc4 (.mk p1 p2 p3)=some (ze0 (.mk p1 p2 p3))) (hW:t.zcN S=some (zbg S)):
  zaA t n dp false op S N v1 v2 v3 v4 v5 p1 p2 p3 Ts By As s1 s2 s3 s4 s5 s6 s7 s8 v p=if restF R (.mk op S N (.mk v1 v2 v3 v4 v5) (.mk p1 p2 p3) Ts By As) (.mk (.mk s1 s2) (.mk s3 s4) (.mk s5 s6) (.mk s7 s8) v p)=true then some (.inr (dp,op,S,N,v1,v2,v3,v4,v5,p1,p2,p3,Ts,By,As))else some (.inl false):=by
 have er:restF R (.mk op S N (.mk v1 v2 v3 v4 v5) (.mk p1 p2 p3) Ts By As) (.mk (.mk s1 s2) (.mk s3 s4) (.mk s5 s6) (.mk s7 s8) v p)=(!(S.any fun s=> !nameF s)&& !(As.any fun s=> !nameF s)&&numF (.mk op S N (.mk v1 v2 v3 v4 v5) (.mk p1 p2 p3) Ts By As)&&(if v=true then okV (.mk v1 v2 v3 v4 v5)else cmp (.mk v1 v2 v3 v4 v5) zv==0)&&(if p=true then okP (.mk p1 p2 p3)else ze0 (.mk p1 p2 p3))&& !(op==43&&(zbg S||decide (By.length > S.length)))):=rfl
 rw[er,zaA,hS,hA,hN,if_neg (by simp)]
 dsimp only
 simp only[zpK hV hV0 hP hE hW]
 cases (S.any fun s=> !nameF s)with
 | true=>simp
 | false=>
  cases (As.any fun s=> !nameF s)with
  | true=>simp
  | false=>cases numF (.mk op S N (.mk v1 v2 v3 v4 v5) (.mk p1 p2 p3) Ts By As)<;>simp
end
theorem zo8 {t:Tab} {n:Nat} {dp op:Int} {S As:List ByteArray} {N:List Int} {v1 v2:Int} {v3:ByteArray} {v4 v5:List zh} {p1:Int} {p2:List zh} {p3:List GPred} {Ts:List (List GStep)} {By:List GBy} {s1 s2 s3 s4 s5 s6 s7 s8:Int} {v p:Bool}:zaA t n dp true op S N v1 v2 v3 v4 v5 p1 p2 p3 Ts By As s1 s2 s3 s4 s5 s6 s7 s8 v p=some (.inl false):=by rw[zaA,if_pos rfl]
def nmF (op:Int):ByteArray:=if 1≤op∧op≤51 then gl0.getD op.toNat ByteArray.empty else ByteArray.mk #[]
theorem zpM (t:Tab) (n:Nat) (op:Int):zdZ t n op=some (nmF op):=by
 simp only[zdZ,nmF]
 by_cases h1:op < 1
 ·rw[if_pos (by simpa using h1),if_neg (by omega)]
 ·rw[if_neg (by simpa using h1)]
  by_cases h2:op > 51
  ·rw[if_pos (by simpa using h2),if_neg (by omega)]
  ·rw[if_neg (by simpa using h2),if_pos (by simp;omega),if_pos (by omega)]
   have h3:op.toNat < gl0.length:=by show op.toNat < 52;omega
   rw[List.getElem?_eq_getElem h3,List.getD_eq_getElem?_getD,List.getElem?_eq_getElem h3]
   rfl
theorem zpN:∀i:Nat,1≤i→i≤51→(gl0.getD i ByteArray.empty).size≠0:=by
 have h:(List.range 52).all (fun i=>i==0|| !((gl0.getD i ByteArray.empty).size==0))=true:=by decide+kernel
 intro i h1 h2 h3
 have:=List.all_eq_true.1 h i (List.mem_range.2 (by omega))
 rw[h3]at this
 simp at this
 omega
theorem zqt (op:Int):((nmF op).toList==(ByteArray.mk #[]).toList)= !decide (1≤op∧op≤51):=by
 rw[ziy]
 by_cases h:1≤op∧op≤51
 ·have e:(nmF op).size≠0:=by
   unfold nmF
   rw[if_pos h]
   exact zpN op.toNat (by omega) (by omega)
  rw[decide_eq_false e,decide_eq_true h]
  rfl
 ·have e:(nmF op).size=0:=by
   unfold nmF
   rw[if_neg h]
   rfl
  rw[decide_eq_true e,decide_eq_false h]
  rfl
set_option maxRecDepth 100000 in
set_option maxHeartbeats 4000000 in
theorem zpO {t : Tab} {n : Nat} {x : GStep} {dp : Int} {R : List GStep → Bool} (hx : SIn x) (hNm : t.zdZ (opOf x) = some (nmF (opOf x))) (hSh : t.zcX = zcX t n) (hIn : ∀ a r, t.zea a r = some (inR a r))
  (hS:t.zB (sOf x)=some ((sOf x).any fun s=> !nameF s)) (hA:t.zB (asOf x)=some ((asOf x).any fun s=> !nameF s))
  (hN:(opOf x=24∨opOf x=48→(nOf x).length=2)→t.zbX x=some (numF x))
  (hV:t.zch (vOf x)=some (if okV (vOf x)then 0 else 2)) (hV0:t.zbU (vOf x) (.mk 0 0 ByteArray.empty [] [])=some (cmp (vOf x) zv==0))
  (hP:t.zds (pOf x)=some (if okP (pOf x)then 0 else 2)) (hE:t.zc4 (pOf x)=some (ze0 (pOf x))) (hW:t.zcN (sOf x)=some (zbg (sOf x)))
  (HT:∀u∈tOf x,t.za9 u (IntKind.wrap .i64 (dp+1))=some (R u)) (HB:∀u∈byOf x,t.zet u (opOf x==40) dp=some (byF R (opOf x==40) u)) (hn:(tOf x).length+(byOf x).length < n):
  zer t n x dp=some (stepF R x):=by
 cases hx with
 | @mk op S N V P Ts By As lS lN lA sS sA iV iP lT lB tl bl aT aB=>
  simp only[opOf,sOf,nOf,vOf,pOf,tOf,byOf,asOf]at *
  obtain⟨v1,v2,v3,v4,v5⟩:=V
  obtain⟨p1,p2,p3⟩:=P
  have hj5:=zpJ (t:=t) (n:=n) (dp:=dp) (op:=op) (S:=S) (As:=As) (N:=N) (v1:=v1) (v2:=v2) (v3:=v3) (v4:=v4) (v5:=v5) (p1:=p1) (p2:=p2) (p3:=p3) HT lT HB lB hn
  rw[zer]
  simp only[hNm,zqt]
  by_cases hop:1≤op∧op≤51
  case neg=>simp[hop,stepF,opOf]
  case pos=>
   rw[if_neg (by simp[hop])]
   have hlt:op.toNat < shL.length:=by show op.toNat < 52;omega
   have hget:shL[op.toNat]?=some (shF op):=by
    unfold shF
    rw[List.getElem?_eq_getElem hlt,List.getD_eq_getElem?_getD,List.getElem?_eq_getElem hlt]
    rfl
   have hnum:zdy (.mk op S N (.mk v1 v2 v3 v4 v5) (.mk p1 p2 p3) Ts By As) (shF op)=true→(op=24∨op=48→N.length=2):=by
    intro hf ho
    rcases ho with rfl | rfl
    ·have e:shF 24=.mk (.mk 0 0) (.mk 2 2) (.mk 0 0) (.mk 0 0) false false:=rfl
     rw[e]at hf
     simp only[zdy,inR,nOf,Bool.and_eq_true,decide_eq_true_eq]at hf
     obtain⟨⟨⟨⟨_,h2,h3⟩,_⟩,_⟩,_⟩:=hf
     have hq:(2:Int)≤(N.length:Int)∧(N.length:Int)≤2:=⟨of_decide_eq_true h2,of_decide_eq_true h3⟩
     omega
    ·have e:shF 48=.mk (.mk 0 0) (.mk 2 2) (.mk 1 2) (.mk 0 0) false false:=rfl
     rw[e]at hf
     simp only[zdy,inR,nOf,Bool.and_eq_true,decide_eq_true_eq]at hf
     obtain⟨⟨⟨⟨_,h2,h3⟩,_⟩,_⟩,_⟩:=hf
     have hq:(2:Int)≤(N.length:Int)∧(N.length:Int)≤2:=⟨of_decide_eq_true h2,of_decide_eq_true h3⟩
     omega
   have hst:stepF R (.mk op S N (.mk v1 v2 v3 v4 v5) (.mk p1 p2 p3) Ts By As)=(zdy (.mk op S N (.mk v1 v2 v3 v4 v5) (.mk p1 p2 p3) Ts By As) (shF op)&&restF R (.mk op S N (.mk v1 v2 v3 v4 v5) (.mk p1 p2 p3) Ts By As) (shF op)&&Ts.all R&&By.all (byF R (op==40))):=by
    simp only[stepF,opOf,tOf,byOf]
    simp[hop]
   rw[hst]
   rw[hSh]
   simp only[zcX]
   rw[if_pos (by simp;omega)]
   rw[show∀(g:List zm),g=shL→g[op.toNat]?=some (shF op) from fun g hg=>by rw[hg,hget]]
   case a=>rfl
   generalize shF op=sh at hnum⊢
   obtain⟨⟨a1,a2⟩,⟨a3,a4⟩,⟨a5,a6⟩,⟨a7,a8⟩,v,p⟩:=sh
   dsimp only
   simp only[hIn,zo8]
   have e50:(decide ((As.length:Int) > 50))= !decide (As.length≤50):=by rw[Bool.eq_iff_iff,Bool.not_eq_true',decide_eq_true_eq,decide_eq_false_iff_not];omega
   simp only[e50]
   have hff:zdy (.mk op S N (.mk v1 v2 v3 v4 v5) (.mk p1 p2 p3) Ts By As) (.mk (.mk a1 a2) (.mk a3 a4) (.mk a5 a6) (.mk a7 a8) v p)=(inR S.length (.mk a1 a2)&&inR N.length (.mk a3 a4)&&inR Ts.length (.mk a5 a6)&&inR By.length (.mk a7 a8)&&decide (As.length≤50)):=rfl
   rw[hff]at hnum⊢
   generalize inR (S.length:Int) (.mk a1 a2)=i1 at hnum⊢
   generalize inR (N.length:Int) (.mk a3 a4)=i2 at hnum⊢
   generalize inR (Ts.length:Int) (.mk a5 a6)=i3 at hnum⊢
   generalize inR (By.length:Int) (.mk a7 a8)=i4 at hnum⊢
   generalize decide (As.length≤50)=i5 at hnum⊢
   cases i1
   ·rfl
   cases i2
   ·rfl
   cases i3
   ·rfl
   cases i4
   ·rfl
   cases i5
   ·simp[zo8]
   have hj:=zpL (t:=t) (n:=n) (dp:=dp) (Ts:=Ts) (By:=By) (R:=R) (s1:=a1) (s2:=a2) (s3:=a3) (s4:=a4) (s5:=a5) (s6:=a6) (s7:=a7) (s8:=a8) (v:=v) (p:=p) hS hA (hN (hnum rfl)) hV hV0 hP hE hW
   simp only[if_true,Bool.not_true,hj]
   cases restF R (.mk op S N (.mk v1 v2 v3 v4 v5) (.mk p1 p2 p3) Ts By As) (.mk (.mk a1 a2) (.mk a3 a4) (.mk a5 a6) (.mk a7 a8) v p)
   ·rfl
   ·simp only[if_true,hj5,Bool.and_true,Bool.true_and]
def zb1:Nat→List GStep→Bool
 | 0,_=>false
 | f+1,l=>l.all (stepF (zb1 f))
theorem zpP {α:Type _} (p:α→Bool) (l:List α):(!(l.any fun x=> !p x))=l.all p:=by
 induction l with
 | nil=>rfl
 | cons x xs ih=>rw[List.any_cons,List.all_cons,←ih];cases p x<;>simp
theorem zkh:∀(f:Nat),f≤11→∀l,wL l≤2097152→Ev fun n=>(tab n).za9 l (12-(f:Int))=some (zb1 f l)
 | 0,hf,l,h=>Ev.step (Ev.pure fun n=>by rw[zgU];simp[za9,zb1])
 | f+1,hf,l,h=>by
  have hin:=zfX h
  have hlen:=zfr l
  have e0:IntKind.wrap .i64 ((12-((f+1:Nat):Int))+1)=12-(f:Int):=by rw[wr (by omega) (by omega)];omega
  have e1:Ev fun n=>(tab n).zP l (12-((f+1:Nat):Int))=some (l.any fun x=> !stepF (zb1 f) x):=by
   refine zkf (fun x hx=> ?_) (by omega)
   have hs:=hin x hx
   have hw:=zg3 hx
   have g1:Ev fun n=>(tab n).zdZ (opOf x)=some (nmF (opOf x)):=Ev.step (Ev.pure fun n=>by rw[zkA,zpM])
   have g2:Ev fun n=>(tab n).zcX=zcX (tab n) n:=Ev.step (Ev.pure fun n=>by rw[zi5];rfl)
   have g3:Ev fun n=>∀a r,(tab n).zea a r=some (inR a r):=Ev.step (Ev.pure fun n a r=>by rw[zmj,zqK])
   have gs:SIn x→((sOf x).length≤2097152∧(asOf x).length≤2097152∧(∀s∈sOf x,s.size≤2097152)∧(∀s∈asOf x,s.size≤2097152)∧VIn (vOf x)∧PIn (pOf x)∧∀b∈byOf x,(bKey b).size≤2097152):=fun h=>by
    cases h with
    | @mk op S N V P Ts By As lS lN lA sS sA iV iP lT lB tl bl aT aB=>exact⟨lS,lA,sS,sA,iV,iP,fun b hb=>(bl b hb).2⟩
   obtain⟨q1,q2,q3,q4,q5,q6,q7⟩:=gs hs
   have g4:=zkg (l:=sOf x) q3 q1
   have g5:=zkg (l:=asOf x) q4 q2
   have g6:Ev fun n=>(opOf x=24∨opOf x=48→(nOf x).length=2)→(tab n).zbX x=some (numF x):=by
    by_cases hc:opOf x=24∨opOf x=48→(nOf x).length=2
    ·exact(znb hs hc).mono fun n hn _=>hn
    ·exact Ev.pure fun n h=>absurd h hc
   have g7:=ziS q5
   have g8:Ev fun n=>(tab n).zbU (vOf x) (.mk 0 0 ByteArray.empty [] [])=some (cmp (vOf x) zv==0):=zm7 q5 (VIn.mk (by simp) (by simp) (by simp) (fun x hx=>by cases hx) (fun x hx=>by cases hx))
   have g9:=zlu q6
   have g10:Ev fun n=>(tab n).zc4 (pOf x)=some (ze0 (pOf x)):=Ev.step (Ev.pure fun n=>by rw[zj6,zo7 q6])
   have g11:=zo6 (l:=sOf x) q1
   have hx2:∀u∈tOf x,wL u < x.t.wt:=fun u hu=>zg2 (List.mem_append_left _ hu)
   have g12:Ev fun n=>∀u∈tOf x,(tab n).za9 u (IntKind.wrap .i64 ((12-((f+1:Nat):Int))+1))=some (zb1 f u):=Ev.all _ fun u hu=>by
    rw[e0]
    exact zkh f (by omega) u (by have:=hx2 u hu;omega)
   have g13:Ev fun n=>∀u∈byOf x,(tab n).zet u (opOf x==40) (12-((f+1:Nat):Int))=some (byF (zb1 f) (opOf x==40) u):=Ev.all _ fun b hb=>by
    have hbw:wL (bT b)≤2097152:=by
     have hb0:wL (bT b) < x.t.wt∨(bT b).length=0:=by
      by_cases h0:(bT b).length=0
      ·exact .inr h0
      ·exact .inl (zg2 (List.mem_append_right _ (List.mem_map.2 ⟨b,List.mem_filter.2 ⟨hb,by simp[innB];right;omega⟩,rfl⟩)))
     rcases hb0 with h0 | h0
     ·omega
     ·have:bT b=[]:=List.eq_nil_of_length_eq_zero h0
      rw[this]
      simp[wL,wts]
    refine Ev.step (((zms (s:=bKey b) (by have:=q7 b hb;omega)).and (zkh f (by omega) (bT b) hbw)).mono fun n hh=> ?_)
    rw[zmk]
    exact zqL hh.1 (by rw[e0];exact hh.2)
   refine Ev.step (p:=fun n=>(tab n).zcf x (12-((f+1:Nat):Int))=some (!stepF (zb1 f) x)) (Ev.step ((((g1.and (g2.and g3)).and (g4.and (g5.and g6))).and ((g7.and (g8.and g9)).and ((g10.and g11).and ((g12.and g13).and (Ev.ge ((tOf x).length+(byOf x).length+1)))))).mono fun n hh=> ?_))
   obtain⟨⟨⟨h1,h2,h3⟩,h4,h5,h6⟩,⟨h7,h8,h9⟩,⟨h10,h11⟩,⟨h12,h13⟩,h14⟩:=hh
   have hstep:=zpO (t:=tab n) (n:=n) (dp:=12-((f+1:Nat):Int)) (R:=zb1 f) hs h1 h2 h3 h4 h5 h6 h7 h8 h9 h10 h11 h12 h13 (by omega)
   rw[zis]
   obtain⟨op,S,N,⟨v1,v2,v3,v4,v5⟩,⟨p1,p2,p3⟩,Ts,By,As⟩:=x
   simp only[zcf,zkz,hstep]
  refine Ev.step (e1.mono fun n hn=> ?_)
  rw[zgU,za9,if_pos (by simp;omega),hn,zb1]
  dsimp only
  rw[zpP]
end Go.Proofs.YtgmidllbkjdnnaaGreatDoor.W

/- Are two programs the same: the program's. -/
import Derived.Test.YtgmidllbkjdnnaaDoorLwB
namespace Go.Proofs.YtgmidllbkjdnnaaDoor.W
open Go.Proofs.YtgmidllbkjdnnaaDoor.Flat
set_option linter.unusedVariables false
set_option linter.unusedSimpArgs false
def sameK : GKey → GKey → Bool
  | .mk k s i d,.mk k' s' i' d'=>(k==k')&&((s.toList==s'.toList)&&((i==i')&&((d==d')&&true)))
def sameC : GCode → GCode → Bool
  | .mk op S N V P K B As,.mk op' S' N' V' P' K' B' As'=>op==op'&&eqL (fun x y=>x.toList==y.toList) S S'&&eqL (fun x y=>x==y) N N'&&eqL (fun x y=>x.toList==y.toList) As As'&&eqL (fun x y=>x==y) K K'&&eqL sameK B B'&&cmp V V'==0&&sameP 2097152 P P'
def sameR (a b:List (List GCode)):Bool:=eqL (eqL sameC) a b
inductive CIn : GCode → Prop
  | mk {op:Int} {S:List ByteArray} {N:List Int} {V:zh} {P:GPred} {K:List Int} {B:List GKey} {As:List ByteArray} (hS:S.length≤4194304) (hN:N.length≤4194304) (hA:As.length≤4194304) (hK:K.length≤4194304) (hB:B.length≤4194304) (hV:VIn V) (hP:PIn P) (wP:P.t.wt≤2097152):CIn (.mk op S N V P K B As)
def RIn (r:List (List GCode)):Prop:=r.length≤4194304∧∀row∈r,row.length≤4194304∧∀c∈row,CIn c
theorem zil {t : Tab} {n : Nat} {a b : List GKey} (hq : a.length = b.length) (hl : a.length ≤ 140737488355328) : ∀ (d i K : Nat), i + d = a.length → d < K → (eqL sameK (a.drop i) (b.drop i) = true ∧ ∃ z, zaD t n K a b (a.length : Int) (i : Int) = some (.inr z)) ∨ (eqL sameK (a.drop i) (b.drop i) = false ∧ zaD t n K a b (a.length : Int) (i : Int) = some (.inl false))
  | 0,i,K,hi,hk=>by
    obtain⟨K,rfl⟩:∃j,K=j+1:=⟨K-1,by omega⟩
    exact .inl ⟨by rw[List.drop_of_length_le (by omega),List.drop_of_length_le (by omega)];rfl,_,by rw[zaD,if_neg (by simp;omega)]⟩
  | d+1,i,K,hi,hk=>by
    obtain⟨K,rfl⟩:∃j,K=j+1:=⟨K-1,by omega⟩
    obtain⟨x,x1,x3,x2⟩:=at_ (l:=a) (i:=i) (by omega)
    obtain⟨y,y1,y3,y2⟩:=at_ (l:=b) (i:=i) (by omega)
    have ih:=zil (t:=t) (n:=n) hq hl d (i+1) K (by omega) (by omega)
    rw[zaD,if_pos (by simp;omega),if_pos (by simp),Int.toNat_natCast,x1,x2,y1,y2,wr1 (i:=i) (L:=a.length) (by omega) hl,eqL]
    clear x1 x2 x3 y1 y2 y3
    cases x
    cases y
    simp only[sameK]
    generalize (_&&(_&&(_&&(_&&true))))=q
    cases q
    · rw[if_neg (by simp),Bool.false_and]
      exact .inr ⟨rfl,rfl⟩
    · rw[if_pos rfl,Bool.true_and]
      exact ih
theorem zl9 {a b:List GKey} (hl:a.length≤140737488355328):Ev fun n=>(tab n).zbc a b=some (eqL sameK a b):=by
  refine Ev.step ((Ev.ge (a.length+1)).mono fun n hh=> ?_)
  rw[zgf,zbc]
  by_cases hq:a.length=b.length
  · rw[if_neg (by simp[hq])]
    rcases zil (t:=tab n) (n:=n) hq hl a.length 0 n (by omega) (by omega)with ⟨h,z,g⟩ | ⟨h,g⟩
    · rw[show((0:Nat):Int)=0 from rfl]at g
      rw[List.drop_zero,List.drop_zero]at h
      simp only[g,h]
    · rw[show((0:Nat):Int)=0 from rfl]at g
      rw[List.drop_zero,List.drop_zero]at h
      simp only[g,h]
  · rw[if_pos (by simp;omega),zdB hq]
theorem zkp : ∀ (f : Nat) (a b : GPred), a.t.wt ≤ f → f ≤ 2097152 → PIn a → PIn b → Ev fun n => (tab n).zaS a b = some (sameP f a b)
  | 0,a,b,h,_,_,_=>by have:=zfl a.t;omega
  | f+1,.mk k v p,.mk k' v' p',h,hf,ha,hb=>by
    simp only[GPred.t,T.wt,wts,zh.zl,GPred.zl]at h
    have l1:=zcD (f:=zh.t) v
    have l2:=zcD (f:=GPred.t) p
    cases ha with
    | mk hv hp av ap=>
    cases hb with
    | mk hv' hp' av' ap'=>
    have e1:=zk0 (a:=v) (b:=v') (f:=fun x y=>cmp x y==0) (fun x hx y hy=>zgX (av x hx) (av' y hy)) (by omega)
    have e2:=zhV (a:=p) (b:=p') (f:=sameP f) (fun x hx y hy=>zkp f x y (by have:=zc9 (f:=GPred.t) hx;omega) (by omega) (ap x hx) (ap' y hy)) (by omega)
    refine Ev.step ((e1.and e2).mono fun n hh=> ?_)
    rw[zgV]
    simp only[zaS,hh.1,hh.2,sameP]
    cases (k==k')<;>cases eqL (fun x y=>cmp x y==0) v v'<;>simp
theorem zoW {c c':GCode} (h:CIn c) (h':CIn c'):Ev fun n=>(tab n).zc0 c c'=some (sameC c c'):=by
  cases h with
  | @mk op S N V P K B As hS hN hA hK hB hV hP wP=>
  cases h' with
  | @mk op' S' N' V' P' K' B' As' hS' hN' hA' hK' hB' hV' hP' wP'=>
  have e1:=zgl (a:=S) (b:=S') (by omega)
  have e2:=zik (a:=N) (b:=N') (by omega)
  have e3:=zgl (a:=As) (b:=As') (by omega)
  have e4:=zgX hV hV'
  have e5:=zkp 2097152 P P' wP (Nat.le_refl _) hP hP'
  have e6:=zik (a:=K) (b:=K') (by omega)
  have e7:=zl9 (a:=B) (b:=B') (by omega)
  refine Ev.step (((e1.and (e2.and e3)).and ((e4.and e5).and (e6.and e7))).mono fun n hh=> ?_)
  obtain⟨⟨h1,h2,h3⟩,⟨h4,h5⟩,h6,h7⟩:=hh
  rw[zju]
  obtain⟨v1,v2,v3,v4,v5⟩:=V
  obtain⟨p1,p2,p3⟩:=P
  obtain⟨w1,w2,w3,w4,w5⟩:=V'
  obtain⟨q1,q2,q3⟩:=P'
  simp only[zc0,zcu,h1,h2,h3,h4,h5,h6,h7,sameC]
  generalize (op==op')=c1
  generalize eqL (fun x y=>x.toList==y.toList) S S'=c2
  generalize eqL (fun x y=>x==y) N N'=c3
  generalize eqL (fun x y=>x.toList==y.toList) As As'=c4
  generalize (cmp (zh.mk v1 v2 v3 v4 v5) (zh.mk w1 w2 w3 w4 w5)==0)=c5
  generalize sameP 2097152 (GPred.mk p1 p2 p3) (GPred.mk q1 q2 q3)=c6
  generalize eqL (fun x y=>x==y) K K'=c7
  generalize eqL sameK B B'=c8
  cases c1<;>cases c2<;>cases c3<;>cases c4<;>cases c5<;>cases c6<;>cases c7<;>cases c8<;>rfl
theorem zeX {a b:List (List GCode)} (ha:RIn a) (hb:RIn b):Ev fun n=>(tab n).zbf (.mk a) (.mk b)=some (sameR a b):=by
  refine Ev.step ((zjG (a:=a) (b:=b) (f:=eqL sameC) (fun x hx y hy=> ?_) (by have:=ha.1;omega)).mono fun n hn=>by rw[zjk,zbf,hn,sameR])
  refine Ev.step ((zkZ (a:=x) (b:=y) (f:=sameC) (fun c hc c' hc'=>zoW ((ha.2 x hx).2 c hc) ((hb.2 y hy).2 c' hc')) (by have:=(ha.2 x hx).1;omega)).mono fun n hn=>by rw[zhL,zca,hn])
theorem zmP (a b:GKey):sameK a b=sameK b a:=by
  cases a
  cases b
  simp only[sameK]
  rw[Bool.eq_iff_iff]
  simp only[Bool.and_eq_true,beq_iff_eq]
  constructor<;>(rintro ⟨h1,h2,h3,h4,h5⟩;exact⟨h1.symm,h2.symm,h3.symm,h4.symm,h5⟩)
theorem zmQ (a b:GCode):sameC a b=sameC b a:=by
  obtain⟨op,S,N,V,P,K,B,As⟩:=a
  obtain⟨op',S',N',V',P',K',B',As'⟩:=b
  simp only[sameC]
  rw[zhY op op',zen (f:=fun x y:ByteArray=>x.toList==y.toList) (g:=fun x y=>x.toList==y.toList) (a:=S) (b:=S') fun x _ y _=>zhY _ _,
    zen (f:=fun x y:ByteArray=>x.toList==y.toList) (g:=fun x y=>x.toList==y.toList) (a:=As) (b:=As') fun x _ y _=>zhY _ _,
    zen (f:=fun x y:Int=>x==y) (g:=fun x y=>x==y) (a:=N) (b:=N') fun x _ y _=>zhY _ _,
    zen (f:=fun x y:Int=>x==y) (g:=fun x y=>x==y) (a:=K) (b:=K') fun x _ y _=>zhY _ _,
    zen (f:=sameK) (g:=sameK) (a:=B) (b:=B') fun x _ y _=>zmP x y,zoK V V',zl2 2097152 P P']
theorem zmR (a b:List (List GCode)):sameR a b=sameR b a:=zen fun x _ y _=>zen fun c _ c' _=>zmQ c c'
theorem zmS (a:List (List GCode)):sameR a a=true:=
  zem fun x _=>zem fun c _=>by
    obtain⟨op,S,N,V,P,K,B,As⟩:=c
    simp only[sameC]
    rw[zem (f:=fun x y:ByteArray=>x.toList==y.toList) (fun x _=>by simp),zem (f:=fun x y:Int=>x==y) (fun x _=>by simp),zem (f:=fun x y:ByteArray=>x.toList==y.toList) (fun x _=>by simp),zem (f:=fun x y:Int=>x==y) (fun x _=>by simp),zem (f:=sameK) (fun x _=>by cases x;simp[sameK]),zl0,zjM]
    simp
end Go.Proofs.YtgmidllbkjdnnaaDoor.W

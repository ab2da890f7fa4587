/- Rows raised: what comes of them, and what they keep to. -/
import Derived.Test.YtgmidllbkjdnnaaDoorLwB
namespace Go.Proofs.YtgmidllbkjdnnaaDoor.W
open Go.Proofs.YtgmidllbkjdnnaaDoor.Flat
set_option linter.unusedVariables false
set_option linter.unusedSimpArgs false
def gOp : GCode → Int
  | .mk o _ _ _ _ _ _ _=>o
def gS : GCode → List ByteArray
  | .mk _ s _ _ _ _ _ _=>s
def gN : GCode → List Int
  | .mk _ _ n _ _ _ _ _=>n
def gV : GCode → zh
  | .mk _ _ _ v _ _ _ _=>v
def gP : GCode → GPred
  | .mk _ _ _ _ p _ _ _=>p
def gAs : GCode → List ByteArray
  | .mk _ _ _ _ _ _ _ a=>a
section
variable (R:Int→Nat→Option (List GStep × Nat))
def kidsR : List Int → Nat → Option (List (List GStep) × Nat)
  | [],m=>some ([],m)
  | k :: ks, m => match R k m with
    | some (t, m1) => (match kidsR ks m1 with
      | some (ts,m2)=>some (t::ts,m2)
      | none=>none)
    | none=>none
def keysR : List GKey → Nat → Option (List GBy × Nat)
  | [],m=>some ([],m)
  | .mk k s i d :: ks, m => if k = 3 then (match R i m with
      | some (t, m1) => (match keysR ks m1 with
        | some (bs,m2)=>some (.mk k s t d::bs,m2)
        | none=>none)
      | none=>none)
    else if i ≠ 0 then none else (match keysR ks m with
      | some (bs,m2)=>some (.mk k s [] d::bs,m2)
      | none=>none)
def codeR (c : GCode) (m : Nat) : Option (GStep × Nat) := match kidsR R (cKids c) m with
  | some (ts, m1) => (match keysR R (cBy c) m1 with
    | some (bs,m2)=>some (.mk (gOp c) (gS c) (gN c) (gV c) (gP c) ts bs (gAs c),m2)
    | none=>none)
  | none=>none
def zeQ : List GCode → Nat → Option (List GStep × Nat)
  | [],m=>some ([],m)
  | c :: cs, m => match codeR R c m with
    | some (x, m1) => (match zeQ cs m1 with
      | some (xs,m2)=>some (x::xs,m2)
      | none=>none)
    | none=>none
end
def raF (rows : List (List GCode)) : Nat → Int → Nat → Option (List GStep × Nat)
  | 0,_,_=>none
  | f+1,k,m=>if k=(m:Int)∧m < rows.length then zeQ (raF rows f) (rows.getD m []) (m+1)else none
def seg (rows:List (List GCode)) (m m1:Nat):List (List GCode):=(rows.drop m).take (m1-m)
theorem zhK {rows:List (List GCode)} {a b c:Nat} (h1:a≤b) (h2:b≤c):seg rows a b++seg rows b c=seg rows a c:=by
  unfold seg
  have e:c-a=(b-a)+(c-b):=by omega
  rw[e,List.take_add,List.drop_drop]
  congr 3
  omega
theorem ziS (rows:List (List GCode)) (a:Nat):seg rows a a=[]:=by simp[seg]
theorem znV {rows:List (List GCode)} {m m1:Nat} (h:m < rows.length) (h1:m < m1):seg rows m m1=rows.getD m []::seg rows (m+1) m1:=by
  unfold seg
  have e:m1-m=(m1-(m+1))+1:=by omega
  rw[e,List.drop_eq_getElem_cons h,List.take_succ_cons]
  simp[h]
theorem zop (rows:List (List GCode)):seg rows 0 rows.length=rows:=by simp[seg]
def nmL (r:List (List GCode)):Nat:=(names r).length
def wR (r:List (List GCode)):Nat:=(r.map fun row=>wts (row.map GCode.t)).sum
def okR (r:List (List GCode)):Prop:=∀row∈r,∀c∈row,1≤gOp c∧gOp c≤51
theorem zeC (a b:List (List GCode)):nmL (a++b)=nmL a+nmL b:=by simp[nmL,zm3]
theorem zfr (a b:List (List GCode)):wR (a++b)=wR a+wR b:=by simp[wR]
theorem zhL {a b:List (List GCode)} (h1:okR a) (h2:okR b):okR (a++b):=fun row hr=>by
  rcases List.mem_append.1 hr with h | h
  · exact h1 row h
  · exact h2 row h
theorem zkf:okR []:=fun row h=>by cases h
def Met (rows:List (List GCode)) (l:List GStep) (m m1:Nat):Prop:=m < m1∧m1≤rows.length∧nmL (seg rows m m1)+1=m1-m∧wL l=wR (seg rows m m1)∧∀g,zdK g l=true→okR (seg rows m m1)
section
variable {rows:List (List GCode)} {R:Int→Nat→Option (List GStep × Nat)} (hR:∀k m l m1,R k m=some (l,m1)→Met rows l m m1)
include hR
theorem zjC : ∀ (ks : List Int) (m : Nat) {ts : List (List GStep)} {m1 : Nat}, m ≤ rows.length → kidsR R ks m = some (ts, m1) → m ≤ m1 ∧ m1 ≤ rows.length ∧ nmL (seg rows m m1) + ks.length = m1 - m ∧ (ts.map wL).sum = wR (seg rows m m1) ∧ ts.length = ks.length ∧ ∀ g, (∀ t ∈ ts, zdK g t = true) → okR (seg rows m m1)
  | [],m,ts,m1,hm,h=>by
    rw[kidsR]at h
    cases h
    rw[ziS]
    exact⟨Nat.le_refl _,hm,by simp[nmL,names],rfl,rfl,fun _ _=>zkf⟩
  | k::ks,m,ts,m1,hm,h=>by
    rw[kidsR]at h
    cases hk:R k m with
    | none=>rw[hk]at h;cases h
    | some p=>
      obtain⟨t,m2⟩:=p
      rw[hk]at h
      dsimp only at h
      cases hs:kidsR R ks m2 with
      | none=>rw[hs]at h;cases h
      | some q=>
        obtain⟨ts',m3⟩:=q
        rw[hs]at h
        cases h
        obtain⟨a1,a2,a3,a4,a5⟩:=hR k m t m2 hk
        obtain⟨b1,b2,b3,b4,b5,b6⟩:=zjC ks m2 a2 hs
        rw[←zhK (Nat.le_of_lt a1) b1,zeC,zfr,List.map_cons,List.sum_cons,List.length_cons,List.length_cons]
        exact⟨by omega,b2,by omega,by omega,by omega,fun g hg=>zhL (a5 g (hg t (List.mem_cons_self ..))) (b6 g fun u hu=>hg u (List.mem_cons_of_mem _ hu))⟩
def chG (By:List GKey):List Int:=(By.filter fun k=>kK k==3).map kKid
omit hR in
theorem zlg (b:GKey) (l:List GKey):chG (b::l)=if kK b==3 then kKid b::chG l else chG l:=by
  unfold chG
  rw[List.filter_cons]
  split<;>rfl
omit hR in
theorem ziT (b:GBy) (l:List GBy):chB (b::l)=if bK b==3 then bT b::chB l else chB l:=by
  unfold chB
  rw[List.filter_cons]
  split<;>rfl
theorem zhe : ∀ (ks : List GKey) (m : Nat) {bs : List GBy} {m1 : Nat}, m ≤ rows.length → keysR R ks m = some (bs, m1) → m ≤ m1 ∧ m1 ≤ rows.length ∧ nmL (seg rows m m1) + (chG ks).length = m1 - m ∧ wts (bs.map GBy.t) = wts (ks.map GKey.t) + wR (seg rows m m1) ∧ bs.length = ks.length ∧ ∀ g, (∀ t ∈ chB bs, zdK g t = true) → okR (seg rows m m1)
  | [],m,ts,m1,hm,h=>by
    rw[keysR]at h
    cases h
    rw[ziS]
    exact⟨Nat.le_refl _,hm,by simp[nmL,names,chG],rfl,rfl,fun _ _=>zkf⟩
  | .mk k s i d::ks,m,ts,m1,hm,h=>by
    rw[keysR]at h
    by_cases h3:k=3
    · rw[if_pos h3]at h
      cases hk:R i m with
      | none=>rw[hk]at h;cases h
      | some p=>
        obtain⟨t,m2⟩:=p
        rw[hk]at h
        dsimp only at h
        cases hs:keysR R ks m2 with
        | none=>rw[hs]at h;cases h
        | some q=>
          obtain⟨bs',m3⟩:=q
          rw[hs]at h
          cases h
          obtain⟨a1,a2,a3,a4,a5⟩:=hR i m t m2 hk
          obtain⟨b1,b2,b3,b4,b5,b6⟩:=zhe ks m2 a2 hs
          rw[←zhK (Nat.le_of_lt a1) b1,zeC,zfr,List.map_cons,List.map_cons,wts,wts,zlg,if_pos (by simp[kK,h3]),List.length_cons,List.length_cons,List.length_cons]
          have e1:(GBy.mk k s t d).t.wt=(GKey.mk k s i d).t.wt+wL t:=by
            simp only[GBy.t,GKey.t,T.wt,wts,GStep.zl,wL]
            omega
          refine⟨by omega,b2,by omega,by omega,by omega,fun g hg=>zhL (a5 g (hg t ?_)) (b6 g fun u hu=>hg u ?_)⟩
          · rw[ziT,if_pos (by simp[bK,h3])];exact List.mem_cons_self ..
          · rw[ziT,if_pos (by simp[bK,h3])];exact List.mem_cons_of_mem _ hu
    · rw[if_neg h3]at h
      by_cases hi:i≠0
      · rw[if_pos hi]at h;cases h
      rw[if_neg hi]at h
      cases hs:keysR R ks m with
      | none=>rw[hs]at h;cases h
      | some q=>
        obtain⟨bs',m3⟩:=q
        rw[hs]at h
        cases h
        obtain⟨b1,b2,b3,b4,b5,b6⟩:=zhe ks m hm hs
        rw[List.map_cons,List.map_cons,wts,wts,zlg,if_neg (by simp[kK,h3]),List.length_cons,List.length_cons]
        have e1:(GBy.mk k s [] d).t.wt=(GKey.mk k s i d).t.wt:=by simp only[GBy.t,GKey.t,T.wt,wts,GStep.ts]
        refine⟨b1,b2,b3,by omega,by omega,fun g hg=>b6 g fun u hu=>hg u ?_⟩
        rw[ziT,if_neg (by simp[bK,h3])];exact hu
theorem zm5 (c:GCode) (m:Nat) {x:GStep} {m1:Nat} (hm:m≤rows.length) (h:codeR R c m=some (x,m1)):m≤m1∧m1≤rows.length∧nmL (seg rows m m1)+(kids c).length=m1-m∧x.t.wt=c.t.wt+wR (seg rows m m1)∧∀g,stepF (zdK g) x=true→(1≤gOp c∧gOp c≤51)∧okR (seg rows m m1):=by
  unfold codeR at h
  cases hk:kidsR R (cKids c) m with
  | none=>rw[hk]at h;cases h
  | some p=>
    obtain⟨ts,m2⟩:=p
    rw[hk]at h
    dsimp only at h
    cases hs:keysR R (cBy c) m2 with
    | none=>rw[hs]at h;cases h
    | some q=>
      obtain⟨bs,m3⟩:=q
      rw[hs]at h
      cases h
      obtain⟨a1,a2,a3,a4,a5,a6⟩:=zjC hR _ _ hm hk
      obtain⟨b1,b2,b3,b4,b5,b6⟩:=zhe hR _ _ a2 hs
      rw[←zhK a1 b1,zeC,zfr]
      have ek:(kids c).length=(cKids c).length+(chG (cBy c)).length:=by rw[kids,List.length_append];rfl
      refine⟨by omega,b2,by omega, ?_,fun g hg=> ?_⟩
      · have h1:=zhJ ts
        have h2:(ts.map fun t=>wL t+1).sum=(ts.map wL).sum+ts.length:=by
          clear hk a4 a5 a6 h1
          induction ts with
          | nil=>rfl
          | cons t ts ih=>rw[List.map_cons,List.map_cons,List.sum_cons,List.sum_cons,List.length_cons,ih];omega
        have h3:∀K:List Int,wts (K.map fun x=>T.v (.int .i64 x))=K.length:=by
          intro K
          induction K with
          | nil=>rfl
          | cons k ks ih=>rw[List.map_cons,wts,ih,List.length_cons];show 1+_=_;omega
        have h3:=h3 (cKids c)
        obtain⟨op,S,N,V,P,K,B,As⟩:=c
        simp only[cKids,cBy,gOp,gS,gN,gV,gP,gAs]at *
        simp only[GStep.t,GCode.t,T.wt,wts,zw,GBy.zl,GKey.zl,zy,h3,h1,h2,b4]
        omega
      · have hin:=zle hg
        have e0:∀x:GStep,subs x=tOf x++chB (byOf x):=fun _=>rfl
        rw[e0]at hin
        unfold stepF at hg
        simp only[Bool.and_eq_true,decide_eq_true_eq]at hg
        exact⟨hg.1.1.1.1,zhL (a6 g fun t ht=>hin t (List.mem_append_left _ ht)) (b6 g fun t ht=>hin t (List.mem_append_right _ ht))⟩
theorem ziU : ∀ (cs : List GCode) (m : Nat) {xs : List GStep} {m1 : Nat}, m ≤ rows.length → zeQ R cs m = some (xs, m1) → m ≤ m1 ∧ m1 ≤ rows.length ∧ nmL (seg rows m m1) + (zdU cs).length = m1 - m ∧ wL xs = wts (cs.map GCode.t) + wR (seg rows m m1) ∧ ∀ g, (∀ x ∈ xs, stepF (zdK g) x = true) → (∀ c ∈ cs, 1 ≤ gOp c ∧ gOp c ≤ 51) ∧ okR (seg rows m m1)
  | [],m,xs,m1,hm,h=>by
    rw[zeQ]at h
    cases h
    rw[ziS]
    exact⟨Nat.le_refl _,hm,by simp[nmL,names,zdU],rfl,fun _ _=>⟨fun c hc=>(by cases hc),zkf⟩⟩
  | c::cs,m,xs,m1,hm,h=>by
    rw[zeQ]at h
    cases hk:codeR R c m with
    | none=>rw[hk]at h;cases h
    | some p=>
      obtain⟨x,m2⟩:=p
      rw[hk]at h
      dsimp only at h
      cases hs:zeQ R cs m2 with
      | none=>rw[hs]at h;cases h
      | some q=>
        obtain⟨xs',m3⟩:=q
        rw[hs]at h
        cases h
        obtain⟨a1,a2,a3,a4,a5⟩:=zm5 hR c m hm hk
        obtain⟨b1,b2,b3,b4,b5⟩:=ziU cs m2 a2 hs
        have en:(zdU (c::cs)).length=(kids c).length+(zdU cs).length:=by rw[zdU,List.flatMap_cons,List.length_append];rfl
        have ew:wL (x::xs')=x.t.wt+wL xs':=by unfold wL;rw[List.map_cons,wts]
        rw[←zhK a1 b1,zeC,zfr,en,ew,List.map_cons,wts]
        refine⟨by omega,b2,by omega,by omega,fun g hg=> ?_⟩
        obtain⟨p1,p2⟩:=a5 g (hg x (List.mem_cons_self ..))
        obtain⟨q1,q2⟩:=b5 g fun y hy=>hg y (List.mem_cons_of_mem _ hy)
        refine⟨fun d hd=> ?_,zhL p2 q2⟩
        rcases List.mem_cons.1 hd with rfl | hd
        · exact p1
        · exact q1 d hd
end
theorem zkg (rows : List (List GCode)) : ∀ (f : Nat) (k : Int) (m : Nat) (l : List GStep) (m1 : Nat), raF rows f k m = some (l, m1) → Met rows l m m1
  | 0,k,m,l,m1,h=>by rw[raF]at h;cases h
  | f+1,k,m,l,m1,h=>by
    rw[raF]at h
    by_cases hc:k=(m:Int)∧m < rows.length
    · rw[if_pos hc]at h
      obtain⟨a1,a2,a3,a4,a5⟩:=ziU (zkg rows f) _ _ (by omega) h
      unfold Met
      rw[znV hc.2 (by omega)]
      have en:nmL (rows.getD m []::seg rows (m+1) m1)=(zdU (rows.getD m [])).length+nmL (seg rows (m+1) m1):=by unfold nmL;rw[names,List.flatMap_cons,List.length_append];rfl
      have ew:wR (rows.getD m []::seg rows (m+1) m1)=wts ((rows.getD m []).map GCode.t)+wR (seg rows (m+1) m1):=by unfold wR;rw[List.map_cons,List.sum_cons]
      rw[en,ew]
      refine⟨by omega,a2,by omega,a4,fun g hg=> ?_⟩
      cases g with
      | zero=>cases hg
      | succ g=>
        rw[zdK,List.all_eq_true]at hg
        obtain⟨q1,q2⟩:=a5 g hg
        intro row hr
        rcases List.mem_cons.1 hr with rfl | hr
        · exact q1
        · exact q2 row hr
    · rw[if_neg hc]at h;cases h
end Go.Proofs.YtgmidllbkjdnnaaDoor.W

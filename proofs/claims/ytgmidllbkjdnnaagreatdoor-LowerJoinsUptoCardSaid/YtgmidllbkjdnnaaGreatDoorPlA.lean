/- Steps of plans that came in small; the plans in a step. -/
import Derived.Test.YtgmidllbkjdnnaaGreatDoorPvS
namespace Go.Proofs.YtgmidllbkjdnnaaGreatDoor.W
open Go.Proofs.YtgmidllbkjdnnaaGreatDoor.Flat
set_option linter.unusedVariables false
set_option linter.unusedSimpArgs false
theorem ziA:∀x:T,1≤x.wt
 | .v v=>by cases v<;>simp[T.wt]
 | .st _=>by rw[T.wt];omega
 | .sl _ _ _=>by rw[T.wt];omega
 | .xl _ _=>by rw[T.wt];omega
 | .op=>by rw[T.wt];omega
theorem znw:∀l:List T,l.length≤wts l
 | []=>by rw[wts];exact Nat.le_refl _
 | x::xs=>by rw[wts,List.length_cons];have:=ziA x;have:=znw xs;omega
theorem znx:∀{l:List T} {x:T},x∈l→x.wt≤wts l
 | y::ys,x,h=>by
  rw[wts]
  rcases List.mem_cons.1 h with rfl | h
  ·omega
  ·have:=znx h;omega
theorem zeF {α:Type _} {f:α→T} {l:List α} {x:α} (h:x∈l):(f x).wt≤wts (l.map f):=znx (List.mem_map.2 ⟨x,h,rfl⟩)
theorem zeL {α:Type _} {f:α→T} (l:List α):l.length≤wts (l.map f):=by have:=znw (l.map f);rwa[List.length_map]at this
theorem zny:∀l m:List T,wts (l++m)=wts l+wts m
 | [],m=>by rw[List.nil_append,wts];omega
 | x::xs,m=>by rw[List.cons_append,wts,wts,zny xs m];omega
theorem zlw:∀(k:Nat) (a:zh),a.t.wt≤k→k≤2097152→VIn a
 | 0,a,h,_=>by have:=ziA a.t;omega
 | k+1,.mk a b s l m,h,hk=>by
  simp only[zh.t,T.wt,wts,zh.zl]at h
  have h1:=zeL (f:=zh.t) l
  have h2:=zeL (f:=zh.t) m
  exact VIn.mk (by omega) (by omega) (by omega) (fun x hx=>zlw k x (by have:=zeF (f:=zh.t) hx;omega) (by omega)) (fun x hx=>zlw k x (by have:=zeF (f:=zh.t) hx;omega) (by omega))
theorem zo4:∀(k:Nat) (a:GPred),a.t.wt≤k→k≤2097152→PIn a
 | 0,a,h,_=>by have:=ziA a.t;omega
 | k+1,.mk a v p,h,hk=>by
  simp only[GPred.t,T.wt,wts,zh.zl,GPred.zl]at h
  have h1:=zeL (f:=zh.t) v
  have h2:=zeL (f:=GPred.t) p
  exact PIn.mk (by omega) (by omega) (fun x hx=>zlw k x (by have:=zeF (f:=zh.t) hx;omega) (by omega)) (fun x hx=>zo4 k x (by have:=zeF (f:=GPred.t) hx;omega) (by omega))
def bK:GBy→Int
 | .mk k _ _ _=>k
def bKey:GBy→ByteArray
 | .mk _ s _ _=>s
def bT:GBy→List GStep
 | .mk _ _ t _=>t
def bD:GBy→Bool
 | .mk _ _ _ d=>d
def innB (b:GBy):Bool:=bK b==3||decide (0 < (bT b).length)
def opOf:GStep→Int
 | .mk o _ _ _ _ _ _ _=>o
def sOf:GStep→List ByteArray
 | .mk _ s _ _ _ _ _ _=>s
def nOf:GStep→List Int
 | .mk _ _ n _ _ _ _ _=>n
def vOf:GStep→zh
 | .mk _ _ _ v _ _ _ _=>v
def pOf:GStep→GPred
 | .mk _ _ _ _ p _ _ _=>p
def tOf:GStep→List (List GStep)
 | .mk _ _ _ _ _ t _ _=>t
def byOf:GStep→List GBy
 | .mk _ _ _ _ _ _ b _=>b
def asOf:GStep→List ByteArray
 | .mk _ _ _ _ _ _ _ a=>a
def inn (x:GStep):List (List GStep):=tOf x++((byOf x).filter innB).map bT
inductive SIn:GStep→Prop
 | mk {op:Int} {S:List ByteArray} {N:List Int} {V:zh} {P:GPred} {Ts:List (List GStep)} {By:List GBy} {As:List ByteArray}
  (hS:S.length≤2097152) (hN:N.length≤2097152) (hA:As.length≤2097152) (sS:∀s∈S,s.size≤2097152) (sA:∀s∈As,s.size≤2097152) (hV:VIn V) (hP:PIn P) (hT:Ts.length≤2097152) (hB:By.length≤2097152)
  (tl:∀t∈Ts,t.length≤2097152) (bl:∀b∈By,(bT b).length≤2097152∧(bKey b).size≤2097152) (aT:∀t∈Ts,∀x∈t,SIn x) (aB:∀b∈By,∀x∈bT b,SIn x):SIn (.mk op S N V P Ts By As)
def wL (l:List GStep):Nat:=wts (l.map GStep.t)
theorem zg2 {x:GStep} {t:List GStep} (h:t∈inn x):wL t < x.t.wt:=by
 cases x with
 | mk op S N V P Ts By As=>
  simp only[GStep.t,T.wt,wts,zx,GBy.zl]
  rcases List.mem_append.1 h with h | h
  ·have:=zeF (f:=fun x=>T.sl false 14 (GStep.ts x)) (show t∈Ts from h)
   rw[T.wt,GStep.zl]at this
   unfold wL
   omega
  ·obtain⟨b,hb,rfl⟩:=List.mem_map.1 h
   have:=zeF (f:=GBy.t) (show b∈By from(List.mem_filter.1 hb).1)
   cases b
   simp only[GBy.t,T.wt,wts,GStep.zl]at this
   simp only[bT]
   unfold wL
   omega
theorem zg3 {x:GStep} {l:List GStep} (h:x∈l):x.t.wt≤wL l:=zeF h
theorem zfr (l:List GStep):l.length≤wL l:=zeL l
theorem zna:∀(k:Nat) (a:GStep),a.t.wt≤k→k≤2097152→SIn a
 | 0,a,h,_=>by have:=ziA a.t;omega
 | k+1,.mk op S N V P Ts By As,h,hk=>by
  simp only[GStep.t,T.wt,wts,zx,GBy.zl,zJ,zz]at h
  have h1:=zeL (f:=fun x=>T.v (.string x)) S
  have h2:=zeL (f:=fun x=>T.v (.int .i64 x)) N
  have h3:=zeL (f:=fun x=>T.v (.string x)) As
  have h4:=zeL (f:=fun x=>T.sl false 14 (GStep.ts x)) Ts
  have h5:=zeL (f:=GBy.t) By
  have hv:=ziA V.t
  have hp:=ziA P.t
  refine SIn.mk (by omega) (by omega) (by omega) (fun s hs=> ?_) (fun s hs=> ?_) (zlw k V (by omega) (by omega)) (zo4 k P (by omega) (by omega)) (by omega) (by omega) (fun t ht=> ?_) (fun b hb=> ?_) (fun t ht x hx=> ?_) (fun b hb x hx=> ?_)
  ·have:=zeF (f:=fun x=>T.v (.string x)) hs
   rw[T.wt]at this
   omega
  ·have:=zeF (f:=fun x=>T.v (.string x)) hs
   rw[T.wt]at this
   omega
  ·have:=zeF (f:=fun x=>T.sl false 14 (GStep.ts x)) ht
   rw[T.wt,GStep.zl]at this
   have:=zeL (f:=GStep.t) t
   omega
  ·have:=zeF (f:=GBy.t) hb
   cases b
   simp only[GBy.t,T.wt,wts,GStep.zl]at this
   simp only[bT,bKey]
   rename_i t _
   have:=zeL (f:=GStep.t) t
   constructor<;>omega
  ·have:=zeF (f:=fun x=>T.sl false 14 (GStep.ts x)) ht
   rw[T.wt,GStep.zl]at this
   have:=zeF (f:=GStep.t) hx
   exact zna k x (by omega) (by omega)
  ·have:=zeF (f:=GBy.t) hb
   cases b
   simp only[GBy.t,T.wt,wts,GStep.zl]at this
   have:=zeF (f:=GStep.t) hx
   simp only[bT]at this
   exact zna k x (by omega) (by omega)
theorem zfX {l:List GStep} (h:wL l≤2097152):∀x∈l,SIn x:=fun x hx=>zna 2097152 x (Nat.le_trans (zg3 hx) h) (Nat.le_refl _)
theorem SIn.zgq {x:GStep} (h:SIn x):(inn x).length≤4194304:=by
 cases h with
 | @mk op S N V P Ts By As hS hN hA sS sA hV hP hT hB tl bl aT aB=>
  simp only[inn,tOf,byOf,List.length_append,List.length_map]
  have:=List.length_filter_le innB By
  omega
theorem zfa {t:Tab} {n:Nat} {By:List GBy} (hl:By.length≤2097152):∀(d i K:Nat) (acc:List (List GStep)),i+d=By.length→d < K→acc.length+d≤4194304→∃z,zcp t n K acc By (By.length:Int) (i:Int)=some (acc++((By.drop i).filter innB).map bT,z)
 | 0,i,K,acc,hi,hk,ha=>by
  obtain⟨K,rfl⟩:∃j,K=j+1:=⟨K-1,by omega⟩
  exact⟨_,by rw[zcp,if_neg (by simp;omega),List.drop_of_length_le (by omega)];simp only[List.filter_nil,List.map_nil,List.append_nil];rfl⟩
 | d+1,i,K,acc,hi,hk,ha=>by
  obtain⟨K,rfl⟩:∃j,K=j+1:=⟨K-1,by omega⟩
  obtain⟨b,x1,x3,x2⟩:=at_ (l:=By) (i:=i) (by omega)
  rw[zcp,if_pos (by simp;omega),if_pos (by simp),Int.toNat_natCast,x1,x2,List.filter_cons]
  cases b with
  | mk k key t0 de=>
   have e1:=wr1 (i:=i) (L:=By.length) (by omega) (by omega)
   have hin:innB (.mk k key t0 de)=(k==3||decide (0 < t0.length)):=rfl
   have hb:bT (.mk k key t0 de)=t0:=rfl
   dsimp only
   by_cases h3:(k==3)=true
   ·rw[if_pos h3,zb3,if_pos rfl,if_pos (by simp;omega)]
    rw[hin,h3,Bool.true_or,if_pos rfl,List.map_cons,hb]
    dsimp only
    rw[e1]
    obtain⟨z,hz⟩:=zfa (t:=t) (n:=n) hl d (i+1) K (acc++[t0]) (by omega) (by omega) (by simp;omega)
    exact⟨z,by rw[hz];simp⟩
   ·rw[if_neg h3]
    have h3':(k==3)=false:=by simpa using h3
    rw[hin,h3',Bool.false_or]
    by_cases h0:0 < t0.length
    ·rw[zb3,if_pos (by simpa using h0),if_pos (by simp;omega),if_pos (by simpa using h0),List.map_cons,hb]
     dsimp only
     rw[e1]
     obtain⟨z,hz⟩:=zfa (t:=t) (n:=n) hl d (i+1) K (acc++[t0]) (by omega) (by omega) (by simp;omega)
     exact⟨z,by rw[hz];simp⟩
    ·rw[zb3,if_neg (by simpa using h0),if_neg (by simpa using h0)]
     dsimp only
     rw[e1]
     exact zfa (t:=t) (n:=n) hl d (i+1) K acc (by omega) (by omega) (by omega)
theorem zmq {x:GStep} (h:SIn x):Ev fun n=>(tab n).zdW x=some (inn x):=by
 cases h with
 | @mk op S N V P Ts By As hS hN hA sS sA hV hP hT hB tl bl aT aB=>
  refine Ev.step (Ev.step ((Ev.ge (By.length+1)).mono fun n hn=> ?_))
  rw[zj3]
  obtain⟨k,nn,s,l,m⟩:=V
  obtain⟨pk,pv,pp⟩:=P
  have hc:(tab (n+1)).zeM Ts=some Ts:=by
   show(if decide (Ts.length * 24≤140737488355328)=true then some Ts else none)=some Ts
   rw[if_pos (by simp;omega)]
  simp only[zdW,hc]
  obtain⟨z,hz⟩:=zfa (t:=tab (n+1)) (n:=n+1) hB By.length 0 (n+1) Ts (by omega) (by omega) (by omega)
  rw[show((0:Nat):Int)=0 from rfl]at hz
  obtain⟨z1,z2,z3,z4⟩:=z
  rw[hz]
  simp[inn,tOf,byOf]
theorem zfo {t:Tab} {n:Nat} {By:List GBy} {c1:Int} {c2:List ByteArray} {c3:List Int} {c4 c5:Int} {c6:ByteArray} {c7 c8:List zh} {c9:Int} {c10:List zh} {c11:List GPred} {c12:List (List GStep)} {c13:List ByteArray} (hl:By.length≤2097152):∀(d i K:Nat) (acc:List (List GStep)),i+d=By.length→d < K→acc.length+d≤4194304→∃z,zbL t n K acc (i:Int) c1 c2 c3 c4 c5 c6 c7 c8 c9 c10 c11 c12 By c13=some (acc++((By.drop i).filter innB).map bT,z)
 | 0,i,K,acc,hi,hk,ha=>by
  obtain⟨K,rfl⟩:∃j,K=j+1:=⟨K-1,by omega⟩
  exact⟨_,by rw[zbL,if_neg (by simp;omega),List.drop_of_length_le (by omega)];simp only[List.filter_nil,List.map_nil,List.append_nil];rfl⟩
 | d+1,i,K,acc,hi,hk,ha=>by
  obtain⟨K,rfl⟩:∃j,K=j+1:=⟨K-1,by omega⟩
  obtain⟨b,x1,x3,x2⟩:=at_ (l:=By) (i:=i) (by omega)
  rw[zbL,if_pos (by simp;omega),if_pos (by simp),Int.toNat_natCast,x1,x2,List.filter_cons]
  cases b with
  | mk k key t0 de=>
   have e1:=wr1 (i:=i) (L:=By.length) (by omega) (by omega)
   have hin:innB (.mk k key t0 de)=(k==3||decide (0 < t0.length)):=rfl
   have hb:bT (.mk k key t0 de)=t0:=rfl
   dsimp only
   by_cases h3:(k==3)=true
   ·rw[if_pos h3,zbu,if_pos rfl,if_pos (by simp),Int.toNat_natCast,x1]
    dsimp only
    rw[if_pos (by simp;omega)]
    rw[hin,h3,Bool.true_or,if_pos rfl,List.map_cons,hb]
    dsimp only
    rw[e1]
    obtain⟨z,hz⟩:=zfo (t:=t) (n:=n) (c1:=c1) (c2:=c2) (c3:=c3) (c4:=c4) (c5:=c5) (c6:=c6) (c7:=c7) (c8:=c8) (c9:=c9) (c10:=c10) (c11:=c11) (c12:=c12) (c13:=c13) hl d (i+1) K (acc++[t0]) (by omega) (by omega) (by simp;omega)
    exact⟨z,by rw[hz];simp⟩
   ·rw[if_neg h3]
    have h3':(k==3)=false:=by simpa using h3
    rw[hin,h3',Bool.false_or]
    by_cases h0:0 < t0.length
    ·rw[zbu,if_pos (by simpa using h0),if_pos (by simp),Int.toNat_natCast,x1]
     dsimp only
     rw[if_pos (by simp;omega),if_pos (by simpa using h0),List.map_cons,hb]
     dsimp only
     rw[e1]
     obtain⟨z,hz⟩:=zfo (t:=t) (n:=n) (c1:=c1) (c2:=c2) (c3:=c3) (c4:=c4) (c5:=c5) (c6:=c6) (c7:=c7) (c8:=c8) (c9:=c9) (c10:=c10) (c11:=c11) (c12:=c12) (c13:=c13) hl d (i+1) K (acc++[t0]) (by omega) (by omega) (by simp;omega)
     exact⟨z,by rw[hz];simp⟩
    ·rw[zbu,if_neg (by simpa using h0),if_neg (by simpa using h0)]
     dsimp only
     rw[e1]
     exact zfo (t:=t) (n:=n) hl d (i+1) K acc (by omega) (by omega) (by omega)
theorem zfR {x:GStep} (h:SIn x):Ev fun n=>(tab n).zb0 x=some (inn x):=by
 cases h with
 | @mk op S N V P Ts By As hS hN hA sS sA hV hP hT hB tl bl aT aB=>
  refine Ev.step ((Ev.ge (By.length+1)).mono fun n hn=> ?_)
  rw[zi1]
  obtain⟨k,nn,s,l,m⟩:=V
  obtain⟨pk,pv,pp⟩:=P
  simp only[zb0]
  rw[if_pos (by simp;omega)]
  obtain⟨z,hz⟩:=zfo (t:=tab n) (n:=n) (c1:=op) (c2:=S) (c3:=N) (c4:=k) (c5:=nn) (c6:=s) (c7:=l) (c8:=m) (c9:=pk) (c10:=pv) (c11:=pp) (c12:=Ts) (c13:=As) hB By.length 0 n ([]++Ts) (by omega) (by omega) (by simp;omega)
  rw[show((0:Nat):Int)=0 from rfl]at hz
  rw[hz]
  obtain⟨z1,z2,z3,z4,z5,z6,z7,z8,z9,za,zb,zc,zd,ze,zf,zg⟩:=z
  simp[inn,tOf,byOf]
end Go.Proofs.YtgmidllbkjdnnaaGreatDoor.W

/- Are two plans the same: the reference's. -/
import Derived.Test.YtgmidllbkjdnnaaDoorPlS
namespace Go.Proofs.YtgmidllbkjdnnaaDoor.W
open Go.Proofs.YtgmidllbkjdnnaaDoor.Flat
set_option linter.unusedVariables false
set_option linter.unusedSimpArgs false
theorem ze8 {t:Tab} {n:Nat} {a b:List ByteArray} (hq:a.length=b.length) (hl:a.length≤4194304):∀(d i K:Nat),i+d=a.length→d < K→(eqL (fun x y=>x.toList==y.toList) (a.drop i) (b.drop i)=true∧∃z,zaI t n K a b (i:Int)=some (.inr z))∨(eqL (fun x y=>x.toList==y.toList) (a.drop i) (b.drop i)=false∧zaI t n K a b (i:Int)=some (.inl false))
 | 0,i,K,hi,hk=>by
  obtain⟨K,rfl⟩:∃j,K=j+1:=⟨K-1,by omega⟩
  exact .inl ⟨by rw[List.drop_of_length_le (by omega),List.drop_of_length_le (by omega)];rfl,_,by rw[zaI,if_neg (by simp;omega)]⟩
 | d+1,i,K,hi,hk=>by
  obtain⟨K,rfl⟩:∃j,K=j+1:=⟨K-1,by omega⟩
  obtain⟨x,x1,x3,x2⟩:=at_ (l:=a) (i:=i) (by omega)
  obtain⟨y,y1,y3,y2⟩:=at_ (l:=b) (i:=i) (by omega)
  have ih:=ze8 (t:=t) (n:=n) hq hl d (i+1) K (by omega) (by omega)
  rw[zaI,if_pos (by simp;omega),if_pos (by simp),Int.toNat_natCast,x1,y1,x2,y2,wr1 (i:=i) (L:=a.length) (by omega) (by omega),eqL]
  dsimp only
  generalize (x.toList==y.toList)=q
  cases q
  ·rw[if_neg (by simp),Bool.false_and];exact .inr ⟨rfl,rfl⟩
  ·rw[if_pos rfl,Bool.true_and];exact ih
theorem ze9 {a b:List ByteArray} (hl:a.length≤4194304):Ev fun n=>(tab n).zaO a b=some (eqL (fun x y=>x.toList==y.toList) a b):=by
 refine Ev.step (((Ev.ge (a.length+1))).mono fun n hh=> ?_)
 rw[zgD,zaO]
 by_cases hq:a.length=b.length
 ·rw[if_neg (by simp;omega)]
  rcases ze8 (t:=tab n) (n:=n) (a:=a) (b:=b) hq hl a.length 0 n (by omega) (by omega)with ⟨h,z,g⟩ | ⟨h,g⟩
  ·rw[show((0:Nat):Int)=0 from rfl]at g
   rw[List.drop_zero,List.drop_zero]at h
   simp only[g,h]
  ·rw[show((0:Nat):Int)=0 from rfl]at g
   rw[List.drop_zero,List.drop_zero]at h
   simp only[g,h]
 ·rw[if_pos (by simp;omega),zdB hq]
theorem zeU {t:Tab} {n:Nat} {a b:List Int} (hq:a.length=b.length) (hl:a.length≤4194304):∀(d i K:Nat),i+d=a.length→d < K→(eqL (fun x y=>x==y) (a.drop i) (b.drop i)=true∧∃z,zaw t n K a b (i:Int)=some (.inr z))∨(eqL (fun x y=>x==y) (a.drop i) (b.drop i)=false∧zaw t n K a b (i:Int)=some (.inl false))
 | 0,i,K,hi,hk=>by
  obtain⟨K,rfl⟩:∃j,K=j+1:=⟨K-1,by omega⟩
  exact .inl ⟨by rw[List.drop_of_length_le (by omega),List.drop_of_length_le (by omega)];rfl,_,by rw[zaw,if_neg (by simp;omega)]⟩
 | d+1,i,K,hi,hk=>by
  obtain⟨K,rfl⟩:∃j,K=j+1:=⟨K-1,by omega⟩
  obtain⟨x,x1,x3,x2⟩:=at_ (l:=a) (i:=i) (by omega)
  obtain⟨y,y1,y3,y2⟩:=at_ (l:=b) (i:=i) (by omega)
  have ih:=zeU (t:=t) (n:=n) hq hl d (i+1) K (by omega) (by omega)
  rw[zaw,if_pos (by simp;omega),if_pos (by simp),Int.toNat_natCast,x1,y1,x2,y2,wr1 (i:=i) (L:=a.length) (by omega) (by omega),eqL]
  dsimp only
  rw[bne]
  generalize (x==y)=q
  cases q
  ·rw[if_pos (by simp),Bool.false_and];exact .inr ⟨rfl,rfl⟩
  ·rw[if_neg (by simp),Bool.true_and];exact ih
theorem zgo {a b:List Int} (hl:a.length≤4194304):Ev fun n=>(tab n).zaQ a b=some (eqL (fun x y=>x==y) a b):=by
 refine Ev.step (((Ev.ge (a.length+1))).mono fun n hh=> ?_)
 rw[zfV,zaQ]
 by_cases hq:a.length=b.length
 ·rw[if_neg (by simp;omega)]
  rcases zeU (t:=tab n) (n:=n) (a:=a) (b:=b) hq hl a.length 0 n (by omega) (by omega)with ⟨h,z,g⟩ | ⟨h,g⟩
  ·rw[show((0:Nat):Int)=0 from rfl]at g
   rw[List.drop_zero,List.drop_zero]at h
   simp only[g,h]
  ·rw[show((0:Nat):Int)=0 from rfl]at g
   rw[List.drop_zero,List.drop_zero]at h
   simp only[g,h]
 ·rw[if_pos (by simp;omega),zdB hq]
theorem zfi {t:Tab} {n:Nat} {a b:List zh} (H:∀x∈a,∀y∈b,t.zb0 x y=some (cmp x y==0)) (hq:a.length=b.length) (hl:a.length≤4194304):∀(d i K:Nat),i+d=a.length→d < K→(eqL (fun x y=>cmp x y==0) (a.drop i) (b.drop i)=true∧∃z,zaR t n K a b (i:Int)=some (.inr z))∨(eqL (fun x y=>cmp x y==0) (a.drop i) (b.drop i)=false∧zaR t n K a b (i:Int)=some (.inl false))
 | 0,i,K,hi,hk=>by
  obtain⟨K,rfl⟩:∃j,K=j+1:=⟨K-1,by omega⟩
  exact .inl ⟨by rw[List.drop_of_length_le (by omega),List.drop_of_length_le (by omega)];rfl,_,by rw[zaR,if_neg (by simp;omega)]⟩
 | d+1,i,K,hi,hk=>by
  obtain⟨K,rfl⟩:∃j,K=j+1:=⟨K-1,by omega⟩
  obtain⟨x,x1,x3,x2⟩:=at_ (l:=a) (i:=i) (by omega)
  obtain⟨y,y1,y3,y2⟩:=at_ (l:=b) (i:=i) (by omega)
  have ih:=zfi (t:=t) (n:=n) H hq hl d (i+1) K (by omega) (by omega)
  rw[zaR,if_pos (by simp;omega),if_pos (by simp),Int.toNat_natCast,x1,y1,x2,y2,wr1 (i:=i) (L:=a.length) (by omega) (by omega),eqL]
  have hx:=H x x3 y y3
  generalize (cmp x y==0)=q at hx⊢
  clear x1 x2 x3 y1 y2 y3
  cases x
  cases y
  simp only[hx]
  cases q
  ·rw[if_neg (by simp),Bool.false_and];exact .inr ⟨rfl,rfl⟩
  ·rw[if_pos rfl,Bool.true_and];exact ih
theorem zhv {a b:List zh} (H:∀x∈a,∀y∈b,Ev fun n=>(tab n).zb0 x y=some (cmp x y==0)) (hl:a.length≤4194304):Ev fun n=>(tab n).zbO a b=some (eqL (fun x y=>cmp x y==0) a b):=by
 refine Ev.step (((Ev.all2 a b H).and (Ev.ge (a.length+1))).mono fun n hh=> ?_)
 rw[zgU,zbO]
 by_cases hq:a.length=b.length
 ·rw[if_neg (by simp;omega)]
  rcases zfi (t:=tab n) (n:=n) (a:=a) (b:=b) hh.1 hq hl a.length 0 n (by omega) (by have:=hh.2;omega)with ⟨h,z,g⟩ | ⟨h,g⟩
  ·rw[show((0:Nat):Int)=0 from rfl]at g
   rw[List.drop_zero,List.drop_zero]at h
   simp only[g,h]
  ·rw[show((0:Nat):Int)=0 from rfl]at g
   rw[List.drop_zero,List.drop_zero]at h
   simp only[g,h]
 ·rw[if_pos (by simp;omega),zdB hq]
theorem zl1 {t:Tab} {n:Nat} {a b:List GPred} {k k':Int} {v v':List zh} {f:GPred→GPred→Bool} (H:∀x∈a,∀y∈b,t.zbI x y=some (f x y)) (hq:a.length=b.length) (hl:a.length≤4194304):∀(d i K:Nat),i+d=a.length→d < K→(eqL f (a.drop i) (b.drop i)=true∧∃z,zb1 t n K (i:Int) k v a k' v' b=some (.inr z))∨(eqL f (a.drop i) (b.drop i)=false∧zb1 t n K (i:Int) k v a k' v' b=some (.inl false))
 | 0,i,K,hi,hk=>by
  obtain⟨K,rfl⟩:∃j,K=j+1:=⟨K-1,by omega⟩
  exact .inl ⟨by rw[List.drop_of_length_le (by omega),List.drop_of_length_le (by omega)];rfl,_,by rw[zb1,if_neg (by simp;omega)]⟩
 | d+1,i,K,hi,hk=>by
  obtain⟨K,rfl⟩:∃j,K=j+1:=⟨K-1,by omega⟩
  obtain⟨x,x1,x3,x2⟩:=at_ (l:=a) (i:=i) (by omega)
  obtain⟨y,y1,y3,y2⟩:=at_ (l:=b) (i:=i) (by omega)
  have ih:=zl1 (n:=n) (k:=k) (k':=k') (v:=v) (v':=v') H hq hl d (i+1) K (by omega) (by omega)
  rw[zb1,if_pos (by simp;omega),if_pos (by simp),Int.toNat_natCast,x1,y1,x2,y2,wr1 (i:=i) (L:=a.length) (by omega) (by omega),eqL]
  have hx:=H x x3 y y3
  generalize f x y=q at hx⊢
  clear x1 x2 x3 y1 y2 y3
  cases x
  cases y
  simp only[hx]
  cases q
  ·rw[if_neg (by simp),Bool.false_and];exact .inr ⟨rfl,rfl⟩
  ·rw[if_pos rfl,Bool.true_and];exact ih
theorem zhX:∀(f:Nat) (a b:GPred),a.t.wt≤f→f≤2097152→PIn a→PIn b→Ev fun n=>(tab n).zbI a b=some (sameP f a b)
 | 0,a,b,h,_,_,_=>by have:=zfl a.t;omega
 | f+1,.mk k v p,.mk k' v' p',h,hf,ha,hb=>by
  simp only[GPred.t,T.wt,wts,zh.zl,GPred.zl]at h
  have l1:=zcD (f:=zh.t) v
  have l2:=zcD (f:=GPred.t) p
  cases ha with
  | mk hv hp av ap=>
  cases hb with
  | mk hv' hp' av' ap'=>
  have e1:=zhv (a:=v) (b:=v') (fun x hx y hy=>zgY (av x hx) (av' y hy)) (by omega)
  have e2:=Ev.all2 (p:=fun x y n=>(tab n).zbI x y=some (sameP f x y)) p p' (fun x hx y hy=>zhX f x y (by have:=zc9 (f:=GPred.t) hx;omega) (by omega) (ap x hx) (ap' y hy))
  refine Ev.step ((e1.and (e2.and (Ev.ge (p.length+1)))).mono fun n hh=> ?_)
  obtain⟨h1,h2,h3⟩:=hh
  rw[zjn,zbI,h1,sameP,bne]
  generalize (k==k')=q1
  generalize eqL (fun x y=>cmp x y==0) v v'=q2
  cases q1
  ·rw[if_pos (by simp)];simp
  rw[if_neg (by simp)]
  cases q2
  ·simp
  dsimp only
  rw[if_pos rfl]
  by_cases hq:p.length=p'.length
  ·rw[if_neg (by simp;omega),zdK]
   rcases zl1 (n:=n) (k:=k) (k':=k') (v:=v) (v':=v') h2 hq (by omega) p.length 0 n (by omega) (by omega)with ⟨h,⟨z1,z2,z3,z4,z5,z6,z7,z8⟩,g⟩ | ⟨h,g⟩
   ·rw[show((0:Nat):Int)=0 from rfl]at g
    rw[List.drop_zero,List.drop_zero]at h
    simp only[g,h]
    rfl
   ·rw[show((0:Nat):Int)=0 from rfl]at g
    rw[List.drop_zero,List.drop_zero]at h
    simp only[g,h]
    rfl
  ·rw[if_pos (by simp;omega),zdB hq]
   simp
section
variable {t:Tab} {n:Nat} {a b:List GStep} {i0 op op':Int} {S As S' As':List ByteArray} {N N':List Int} {v1 v2 w1 w2:Int} {v3 w3:ByteArray} {v4 v5 w4 w5:List zh} {p1 q1:Int} {p2 q2:List zh} {p3 q3:List GPred} {Ts Ts':List (List GStep)} {By By':List GBy} {R:List GStep→List GStep→Bool}
theorem zpC (H:∀x∈Ts,∀y∈Ts',t.zaA x y=some (R x y)) (hq:Ts.length=Ts'.length) (hl:Ts.length≤4194304):∀(d i K:Nat),i+d=Ts.length→d < K→(eqL R (Ts.drop i) (Ts'.drop i)=true∧∃z1 z2,zbE t n K a b i0 (i:Int) op S N v1 v2 v3 v4 v5 p1 p2 p3 Ts By As op' S' N' w1 w2 w3 w4 w5 q1 q2 q3 Ts' By' As'=some (.inr (a,b,i0,z1,z2,op,S,N,v1,v2,v3,v4,v5,p1,p2,p3,Ts,By,As,op',S',N',w1,w2,w3,w4,w5,q1,q2,q3,Ts',By',As')))∨(eqL R (Ts.drop i) (Ts'.drop i)=false∧zbE t n K a b i0 (i:Int) op S N v1 v2 v3 v4 v5 p1 p2 p3 Ts By As op' S' N' w1 w2 w3 w4 w5 q1 q2 q3 Ts' By' As'=some (.inl false))
 | 0,i,K,hi,hk=>by
  obtain⟨K,rfl⟩:∃j,K=j+1:=⟨K-1,by omega⟩
  exact .inl ⟨by rw[List.drop_of_length_le (by omega),List.drop_of_length_le (by omega)];rfl,_,_,by rw[zbE,if_neg (by simp;omega)]⟩
 | d+1,i,K,hi,hk=>by
  obtain⟨K,rfl⟩:∃j,K=j+1:=⟨K-1,by omega⟩
  obtain⟨x,x1,x3,x2⟩:=at_ (l:=Ts) (i:=i) (by omega)
  obtain⟨y,y1,y3,y2⟩:=at_ (l:=Ts') (i:=i) (by omega)
  have ih:=zpC H hq hl d (i+1) K (by omega) (by omega)
  rw[zbE,if_pos (by simp;omega),if_pos (by simp),Int.toNat_natCast,x1,y1,x2,y2,wr1 (i:=i) (L:=Ts.length) (by omega) (by omega),eqL]
  simp only[H x x3 y y3]
  cases R x y
  ·rw[if_neg (by simp),Bool.false_and];exact .inr ⟨rfl,rfl⟩
  ·rw[if_pos rfl,Bool.true_and];exact ih
theorem zpD (H:∀x∈By,∀y∈By',t.zaA (bT x) (bT y)=some (R (bT x) (bT y))) (hq:By.length=By'.length) (hl:By.length≤4194304):∀(d i K:Nat),i+d=By.length→d < K→(eqL (sameB R) (By.drop i) (By'.drop i)=true∧∃z1 z2,zbZ t n K a b i0 (i:Int) op S N v1 v2 v3 v4 v5 p1 p2 p3 Ts By As op' S' N' w1 w2 w3 w4 w5 q1 q2 q3 Ts' By' As'=some (.inr (a,b,i0,z1,z2,op,S,N,v1,v2,v3,v4,v5,p1,p2,p3,Ts,By,As,op',S',N',w1,w2,w3,w4,w5,q1,q2,q3,Ts',By',As')))∨(eqL (sameB R) (By.drop i) (By'.drop i)=false∧zbZ t n K a b i0 (i:Int) op S N v1 v2 v3 v4 v5 p1 p2 p3 Ts By As op' S' N' w1 w2 w3 w4 w5 q1 q2 q3 Ts' By' As'=some (.inl false))
 | 0,i,K,hi,hk=>by
  obtain⟨K,rfl⟩:∃j,K=j+1:=⟨K-1,by omega⟩
  exact .inl ⟨by rw[List.drop_of_length_le (by omega),List.drop_of_length_le (by omega)];rfl,_,_,by rw[zbZ,if_neg (by simp;omega)]⟩
 | d+1,i,K,hi,hk=>by
  obtain⟨K,rfl⟩:∃j,K=j+1:=⟨K-1,by omega⟩
  obtain⟨x,x1,x3,x2⟩:=at_ (l:=By) (i:=i) (by omega)
  obtain⟨y,y1,y3,y2⟩:=at_ (l:=By') (i:=i) (by omega)
  have ih:=zpD H hq hl d (i+1) K (by omega) (by omega)
  rw[zbZ,if_pos (by simp;omega),if_pos (by simp),Int.toNat_natCast,x1,y1,x2,y2,wr1 (i:=i) (L:=By.length) (by omega) (by omega),eqL]
  have hx:=H x x3 y y3
  clear x1 x2 x3 y1 y2 y3
  obtain⟨k1,s1,u1,d1⟩:=x
  obtain⟨k2,s2,u2,d2⟩:=y
  simp only[bT]at hx
  simp only[hx,sameB,bne]
  generalize (k1==k2)=c1
  generalize (s1.toList==s2.toList)=c2
  generalize (d1==d2)=c3
  generalize R u1 u2=c4
  cases c1
  ·simp
  ·cases c2
   ·simp
   ·cases c3
    ·simp
    ·cases c4
     ·simp
     ·simpa using ih
theorem zp7 (H:∀x∈Ts,∀y∈Ts',t.zaA x y=some (R x y)) (hq:Ts.length=Ts'.length) (hl:Ts.length≤4194304) (HB:∀x∈By,∀y∈By',t.zaA (bT x) (bT y)=some (R (bT x) (bT y))) (hqB:By.length=By'.length) (hlB:By.length≤4194304) (hn:Ts.length+By.length < n):zcG t n a b i0 op S N v1 v2 v3 v4 v5 p1 p2 p3 Ts By As op' S' N' w1 w2 w3 w4 w5 q1 q2 q3 Ts' By' As'=some (if (eqL R Ts Ts'&&eqL (sameB R) By By')=true then .inr (a,b,i0)else .inl false):=by
 rw[zcG]
 rcases zpC (n:=n) (a:=a) (b:=b) (i0:=i0) (op:=op) (op':=op') (S:=S) (As:=As) (S':=S') (As':=As') (N:=N) (N':=N') (v1:=v1) (v2:=v2) (v3:=v3) (v4:=v4) (v5:=v5) (w1:=w1) (w2:=w2) (w3:=w3) (w4:=w4) (w5:=w5) (p1:=p1) (p2:=p2) (p3:=p3) (q1:=q1) (q2:=q2) (q3:=q3) (By:=By) (By':=By') H hq hl Ts.length 0 n (by omega) (by omega)with ⟨h,z1,z2,g⟩ | ⟨h,g⟩
 ·rw[show((0:Nat):Int)=0 from rfl]at g
  rw[List.drop_zero,List.drop_zero]at h
  simp only[g,h,Bool.true_and]
  rw[zdz]
  rcases zpD (n:=n) (a:=a) (b:=b) (i0:=i0) (op:=op) (op':=op') (S:=S) (As:=As) (S':=S') (As':=As') (N:=N) (N':=N') (v1:=v1) (v2:=v2) (v3:=v3) (v4:=v4) (v5:=v5) (w1:=w1) (w2:=w2) (w3:=w3) (w4:=w4) (w5:=w5) (p1:=p1) (p2:=p2) (p3:=p3) (q1:=q1) (q2:=q2) (q3:=q3) (Ts:=Ts) (Ts':=Ts') HB hqB hlB By.length 0 n (by omega) (by omega)with ⟨h,z1,z2,g⟩ | ⟨h,g⟩
  ·rw[show((0:Nat):Int)=0 from rfl]at g
   rw[List.drop_zero,List.drop_zero]at h
   simp only[g,h,if_true]
  ·rw[show((0:Nat):Int)=0 from rfl]at g
   rw[List.drop_zero,List.drop_zero]at h
   simp[g,h]
 ·rw[show((0:Nat):Int)=0 from rfl]at g
  rw[List.drop_zero,List.drop_zero]at h
  simp[g,h]
end
def RsAt (R:List GStep→List GStep→Bool) (n:Nat) (x y:GStep):Prop:=
 (tab n).zaO (sOf x) (sOf y)=some (eqL (fun x y=>x.toList==y.toList) (sOf x) (sOf y))∧(tab n).zaQ (nOf x) (nOf y)=some (eqL (fun x y=>x==y) (nOf x) (nOf y))∧(tab n).zaO (asOf x) (asOf y)=some (eqL (fun x y=>x.toList==y.toList) (asOf x) (asOf y))∧(tab n).zb0 (vOf x) (vOf y)=some (cmp (vOf x) (vOf y)==0)∧(tab n).zbI (pOf x) (pOf y)=some (sameP 2097152 (pOf x) (pOf y))∧(∀u∈tOf x,∀v∈tOf y,(tab n).zaA u v=some (R u v))∧(∀u∈byOf x,∀v∈byOf y,(tab n).zaA (bT u) (bT v)=some (R (bT u) (bT v)))∧(tOf x).length+(byOf x).length < n∧(tOf x).length+(byOf x).length≤4194304
theorem zpE {n:Nat} {a b:List GStep} {R:List GStep→List GStep→Bool} (H:∀x∈a,∀y∈b,RsAt R n x y) (hq:a.length=b.length) (hl:a.length≤4194304):∀(d i K:Nat),i+d=a.length→d < K→(eqL (sameS R) (a.drop i) (b.drop i)=true∧∃z,zbF (tab n) n K a b (i:Int)=some (.inr z))∨(eqL (sameS R) (a.drop i) (b.drop i)=false∧zbF (tab n) n K a b (i:Int)=some (.inl false))
 | 0,i,K,hi,hk=>by
  obtain⟨K,rfl⟩:∃j,K=j+1:=⟨K-1,by omega⟩
  exact .inl ⟨by rw[List.drop_of_length_le (by omega),List.drop_of_length_le (by omega)];rfl,_,by rw[zbF,if_neg (by simp;omega)]⟩
 | d+1,i,K,hi,hk=>by
  obtain⟨K,rfl⟩:∃j,K=j+1:=⟨K-1,by omega⟩
  obtain⟨x,x1,x3,x2⟩:=at_ (l:=a) (i:=i) (by omega)
  obtain⟨y,y1,y3,y2⟩:=at_ (l:=b) (i:=i) (by omega)
  have ih:=zpE H hq hl d (i+1) K (by omega) (by omega)
  obtain⟨h1,h2,h3,h4,h5,h6,h7,h8,h9⟩:=H x x3 y y3
  rw[zbF,if_pos (by simp;omega),if_pos (by simp),Int.toNat_natCast,x1,y1,x2,y2,eqL]
  have hw:=wr1 (i:=i) (L:=a.length) (by omega) (by omega)
  clear x1 x2 x3 y1 y2 y3 H
  obtain⟨op,S,N,⟨v1,v2,v3,v4,v5⟩,⟨p1,p2,p3⟩,Ts,By,As⟩:=x
  obtain⟨op',S',N',⟨w1,w2,w3,w4,w5⟩,⟨q1,q2,q3⟩,Ts',By',As'⟩:=y
  simp only[sOf,nOf,asOf,vOf,pOf,tOf,byOf]at h1 h2 h3 h4 h5 h6 h7 h8 h9
  simp only[h1,h2,h3,h4,h5,sameS,bne]
  generalize (op==op')=c1
  generalize eqL (fun x y=>x.toList==y.toList) S S'=c2
  generalize eqL (fun x y=>x==y) N N'=c3
  generalize eqL (fun x y=>x.toList==y.toList) As As'=c4
  generalize (cmp (zh.mk v1 v2 v3 v4 v5) (zh.mk w1 w2 w3 w4 w5)==0)=c5
  generalize sameP 2097152 (GPred.mk p1 p2 p3) (GPred.mk q1 q2 q3)=c6
  cases c1
  ·simp
  cases c2
  ·simp
  cases c3
  ·simp
  cases c4
  ·simp
  cases c5
  ·simp
  cases c6
  ·simp
  simp only[Bool.not_true,Bool.false_eq_true,if_false,if_true,Bool.true_and]
  by_cases hT:Ts.length=Ts'.length
  ·rw[if_neg (by simp;omega)]
   by_cases hB:By.length=By'.length
   ·rw[if_neg (by simp;omega),zp7 h6 hT (by omega) h7 hB (by omega) (by omega)]
    generalize eqL R Ts Ts'=c7
    generalize eqL (sameB R) By By'=c8
    cases c7
    ·simp
    cases c8
    ·simp
    simp only[Bool.and_self,if_true,Bool.true_and,hw]
    exact ih
   ·rw[if_pos (by simp;omega),zdB hB]
    simp
  ·rw[if_pos (by simp;omega),zdB hT]
   simp
theorem zmK:∀(f:Nat) (a b:List GStep),wL a≤f→f≤2097152→wL b≤2097152→Ev fun n=>(tab n).zaA a b=some (sameL f a b)
 | 0,a,b,h,_,hb=>by
  have:=zfm a
  have:a=[]:=List.eq_nil_of_length_eq_zero (by omega)
  subst this
  refine Ev.step ((Ev.ge 1).mono fun n hn=> ?_)
  obtain⟨n,rfl⟩:∃j,n=j+1:=⟨n-1,by omega⟩
  rw[zga,zaA,sameL]
  cases b with
  | nil=>simp[zbF,eqL]
  | cons y ys=>
   rw[if_pos (by simp;omega)]
   rfl
 | f+1,a,b,h,hf,hb=>by
  have hin:=zfO (l:=a) (by omega)
  have hin':=zfO hb
  have hlen:=zfm a
  have H:Ev fun n=>∀x∈a,∀y∈b,RsAt (sameL f) n x y:=Ev.all2 a b fun x hx y hy=>by
   have hsx:=hin x hx
   have hsy:=hin' y hy
   have wx:=zgn hx
   have wy:=zgn hy
   cases hsx with
   | @mk op S N V P Ts By As lS lN lA sS sA iV iP lT lB tl bl aT aB=>
   cases hsy with
   | @mk op' S' N' V' P' Ts' By' As' lS' lN' lA' sS' sA' iV' iP' lT' lB' tl' bl' aT' aB'=>
   simp only[GStep.t,T.wt,wts,zy,GBy.zl]at wx wy
   have e1:=ze9 (a:=S) (b:=S') (by omega)
   have e2:=zgo (a:=N) (b:=N') (by omega)
   have e3:=ze9 (a:=As) (b:=As') (by omega)
   have e4:=zgY iV iV'
   have e5:=zhX 2097152 P P' (by omega) (Nat.le_refl _) iP iP'
   have wT:∀t∈Ts,wL t≤f:=fun t ht=>by
    have:=zc9 (f:=fun x=>T.sl false 14 (GStep.ts x)) ht
    rw[T.wt,GStep.zl]at this
    unfold wL
    omega
   have wT':∀t∈Ts',wL t≤2097152:=fun t ht=>by
    have:=zc9 (f:=fun x=>T.sl false 14 (GStep.ts x)) ht
    rw[T.wt,GStep.zl]at this
    unfold wL
    omega
   have wB:∀u∈By,wL (bT u)≤f:=fun u hu=>by
    have:=zc9 (f:=GBy.t) hu
    cases u
    simp only[GBy.t,T.wt,wts,GStep.zl]at this
    simp only[bT]
    unfold wL
    omega
   have wB':∀u∈By',wL (bT u)≤2097152:=fun u hu=>by
    have:=zc9 (f:=GBy.t) hu
    cases u
    simp only[GBy.t,T.wt,wts,GStep.zl]at this
    simp only[bT]
    unfold wL
    omega
   have e6:=Ev.all2 (p:=fun u v n=>(tab n).zaA u v=some (sameL f u v)) Ts Ts' (fun t ht u hu=>zmK f t u (wT t ht) (by omega) (wT' u hu))
   have e7:=Ev.all2 (p:=fun u v n=>(tab n).zaA (bT u) (bT v)=some (sameL f (bT u) (bT v))) By By' (fun u hu v hv=>zmK f (bT u) (bT v) (wB u hu) (by omega) (wB' v hv))
   refine(((e1.and (e2.and e3)).and ((e4.and e5).and (e6.and e7))).and (Ev.ge (Ts.length+By.length+1))).mono fun n hh=> ?_
   obtain⟨⟨⟨h1,h2,h3⟩,⟨h4,h5⟩,h6,h7⟩,h8⟩:=hh
   exact⟨h1,h2,h3,h4,h5,h6,h7,by simp only[tOf,byOf];omega,by simp only[tOf,byOf];omega⟩
  refine Ev.step ((H.and (Ev.ge (a.length+1))).mono fun n hh=> ?_)
  rw[zga,zaA,sameL]
  by_cases hq:a.length=b.length
  ·rw[if_neg (by simp;omega)]
   rcases zpE hh.1 hq (by omega) a.length 0 n (by omega) (by have:=hh.2;omega)with ⟨h,⟨z1,z2,z3,z4⟩,g⟩ | ⟨h,g⟩
   ·rw[show((0:Nat):Int)=0 from rfl]at g
    rw[List.drop_zero,List.drop_zero]at h
    simp only[g,h]
   ·rw[show((0:Nat):Int)=0 from rfl]at g
    rw[List.drop_zero,List.drop_zero]at h
    simp only[g,h]
  ·rw[if_pos (by simp;omega),zdB hq]
theorem zmL {a b:List GStep} (ha:wL a≤2097152) (hb:wL b≤2097152):Ev fun n=>(tab n).zaA a b=some (zmJ a b):=zmK 2097152 a b ha (Nat.le_refl _) hb
end Go.Proofs.YtgmidllbkjdnnaaDoor.W

/- Rows looked through, rows compared. -/
import Derived.Test.YtgmidllbkjdnnaaDoorPvRB
namespace Go.Proofs.YtgmidllbkjdnnaaDoor.W
open Go.Proofs.YtgmidllbkjdnnaaDoor.Flat
set_option linter.unusedVariables false
set_option linter.unusedSimpArgs false
theorem zgj {t:Tab} {n:Nat} {l:List GStep} {e0:Int} {g:GStep→Bool} (H:∀x∈l,t.zbP x e0=some (g x)) (hl:l.length≤140737488355328):∀(d i K:Nat),i+d=l.length→d < K→((l.drop i).any g=false∧∃z,zP t n K l e0 (l.length:Int) (i:Int)=some (.inr z))∨((l.drop i).any g=true∧∃j:Nat,zP t n K l e0 (l.length:Int) (i:Int)=some (.inl (j:Int)))
 | 0,i,K,hi,hk=>by
  obtain⟨K,rfl⟩:∃j,K=j+1:=⟨K-1,by omega⟩
  exact .inl ⟨by rw[List.drop_of_length_le (by omega)];rfl,_,by rw[zP,if_neg (by simp;omega)]⟩
 | d+1,i,K,hi,hk=>by
  obtain⟨K,rfl⟩:∃j,K=j+1:=⟨K-1,by omega⟩
  obtain⟨x,x1,x3,x2⟩:=at_ (l:=l) (i:=i) (by omega)
  have hx:=H x x3
  have ih:=zgj (n:=n) H hl d (i+1) K (by omega) (by omega)
  rw[zP,if_pos (by simp;omega),if_pos (by simp),Int.toNat_natCast,x1,x2,wr1 (i:=i) (L:=l.length) (by omega) hl,List.any_cons]
  generalize g x=q at hx⊢
  clear x1 x2 x3
  obtain⟨x1,x2,x3,⟨x4,x5,x6,x7,x8⟩,⟨x9,xa,xb⟩,xc,xd,xe⟩:=x
  simp only[hx]
  cases q
  ·rw[if_neg (by simp),Bool.false_or]
   exact ih
  ·rw[if_pos rfl,Bool.true_or]
   exact .inr ⟨rfl,i,rfl⟩
theorem zjF {l:List GStep} {e0:Int} {g:GStep→Bool} (H:∀x∈l,Ev fun n=>(tab n).zbP x e0=some (g x)) (hl:l.length≤140737488355328):Ev fun n=>(tab n).zO l e0=some (l.any g):=by
 refine Ev.step (Ev.step (((Ev.all l H).and (Ev.ge (l.length+1))).mono fun n hh=> ?_))
 rw[zee]
 simp only[zO,zey,zaf]
 rcases zgj (n:=n) hh.1 hl l.length 0 n (by omega) (by omega)with ⟨h,z,g⟩ | ⟨h,j,g⟩
 ·rw[show((0:Nat):Int)=0 from rfl]at g
  rw[List.drop_zero]at h
  simp only[g,h]
  rfl
 ·rw[show((0:Nat):Int)=0 from rfl]at g
  rw[List.drop_zero]at h
  simp only[g,h]
  simp
theorem zgI {t:Tab} {n:Nat} {l:List ByteArray} {g:ByteArray→Bool} (H:∀x∈l,t.zcK x=some (g x)) (hl:l.length≤140737488355328):∀(d i K:Nat),i+d=l.length→d < K→((l.drop i).any g=false∧∃z,zT t n K l (l.length:Int) (i:Int)=some (.inr z))∨((l.drop i).any g=true∧∃j:Nat,zT t n K l (l.length:Int) (i:Int)=some (.inl (j:Int)))
 | 0,i,K,hi,hk=>by
  obtain⟨K,rfl⟩:∃j,K=j+1:=⟨K-1,by omega⟩
  exact .inl ⟨by rw[List.drop_of_length_le (by omega)];rfl,_,by rw[zT,if_neg (by simp;omega)]⟩
 | d+1,i,K,hi,hk=>by
  obtain⟨K,rfl⟩:∃j,K=j+1:=⟨K-1,by omega⟩
  obtain⟨x,x1,x3,x2⟩:=at_ (l:=l) (i:=i) (by omega)
  have hx:=H x x3
  have ih:=zgI (n:=n) H hl d (i+1) K (by omega) (by omega)
  rw[zT,if_pos (by simp;omega),if_pos (by simp),Int.toNat_natCast,x1,x2,wr1 (i:=i) (L:=l.length) (by omega) hl,List.any_cons]
  generalize g x=q at hx⊢
  clear x1 x2 x3
  simp only[hx]
  cases q
  ·rw[if_neg (by simp),Bool.false_or]
   exact ih
  ·rw[if_pos rfl,Bool.true_or]
   exact .inr ⟨rfl,i,rfl⟩
theorem zj1 {l:List ByteArray} {g:ByteArray→Bool} (H:∀x∈l,Ev fun n=>(tab n).zcK x=some (g x)) (hl:l.length≤140737488355328):Ev fun n=>(tab n).zA l=some (l.any g):=by
 refine Ev.step (Ev.step (((Ev.all l H).and (Ev.ge (l.length+1))).mono fun n hh=> ?_))
 rw[zek]
 simp only[zA,zeH,zal]
 rcases zgI (n:=n) hh.1 hl l.length 0 n (by omega) (by omega)with ⟨h,z,g⟩ | ⟨h,j,g⟩
 ·rw[show((0:Nat):Int)=0 from rfl]at g
  rw[List.drop_zero]at h
  simp only[g,h]
  rfl
 ·rw[show((0:Nat):Int)=0 from rfl]at g
  rw[List.drop_zero]at h
  simp only[g,h]
  simp
theorem zfB {t:Tab} {n:Nat} {l:List Int} {g:Int→Bool} (H:∀x∈l,t.zbn x=some (g x)) (hl:l.length≤140737488355328):∀(d i K:Nat),i+d=l.length→d < K→((l.drop i).any g=false∧∃z,zK t n K l (l.length:Int) (i:Int)=some (.inr z))∨((l.drop i).any g=true∧∃j:Nat,zK t n K l (l.length:Int) (i:Int)=some (.inl (j:Int)))
 | 0,i,K,hi,hk=>by
  obtain⟨K,rfl⟩:∃j,K=j+1:=⟨K-1,by omega⟩
  exact .inl ⟨by rw[List.drop_of_length_le (by omega)];rfl,_,by rw[zK,if_neg (by simp;omega)]⟩
 | d+1,i,K,hi,hk=>by
  obtain⟨K,rfl⟩:∃j,K=j+1:=⟨K-1,by omega⟩
  obtain⟨x,x1,x3,x2⟩:=at_ (l:=l) (i:=i) (by omega)
  have hx:=H x x3
  have ih:=zfB (n:=n) H hl d (i+1) K (by omega) (by omega)
  rw[zK,if_pos (by simp;omega),if_pos (by simp),Int.toNat_natCast,x1,x2,wr1 (i:=i) (L:=l.length) (by omega) hl,List.any_cons]
  generalize g x=q at hx⊢
  clear x1 x2 x3
  simp only[hx]
  cases q
  ·rw[if_neg (by simp),Bool.false_or]
   exact ih
  ·rw[if_pos rfl,Bool.true_or]
   exact .inr ⟨rfl,i,rfl⟩
theorem zhU {l:List Int} {g:Int→Bool} (H:∀x∈l,Ev fun n=>(tab n).zbn x=some (g x)) (hl:l.length≤140737488355328):Ev fun n=>(tab n).zI l=some (l.any g):=by
 refine Ev.step (Ev.step (((Ev.all l H).and (Ev.ge (l.length+1))).mono fun n hh=> ?_))
 rw[zea]
 simp only[zI,zel,zab]
 rcases zfB (n:=n) hh.1 hl l.length 0 n (by omega) (by omega)with ⟨h,z,g⟩ | ⟨h,j,g⟩
 ·rw[show((0:Nat):Int)=0 from rfl]at g
  rw[List.drop_zero]at h
  simp only[g,h]
  rfl
 ·rw[show((0:Nat):Int)=0 from rfl]at g
  rw[List.drop_zero]at h
  simp only[g,h]
  simp
def eqL {α:Type _} (f:α→α→Bool):List α→List α→Bool
 | [],[]=>true
 | x::xs,y::ys=>f x y&&eqL f xs ys
 | _,_=>false
theorem zdB {α:Type _} {f:α→α→Bool}:∀{a b:List α},a.length≠b.length→eqL f a b=false
 | [],[],h=>absurd rfl h
 | [],_::_,_=>rfl
 | _::_,[],_=>rfl
 | x::xs,y::ys,h=>by
  rw[eqL,zdB (a:=xs) (b:=ys) (fun e=>h (by simp[e])),Bool.and_false]
theorem zfU {t:Tab} {n:Nat} {a b:List (List GCode)} {f:(List GCode)→(List GCode)→Bool} (H:∀x∈a,∀y∈b,t.zca x y=some (f x y)) (hq:a.length=b.length) (hl:a.length≤140737488355328):∀(d i K:Nat),i+d=a.length→d < K→(eqL f (a.drop i) (b.drop i)=true∧∃z,zN t n K b a (a.length:Int) (i:Int)=some (.inr z))∨(eqL f (a.drop i) (b.drop i)=false∧zN t n K b a (a.length:Int) (i:Int)=some (.inl false))
 | 0,i,K,hi,hk=>by
  obtain⟨K,rfl⟩:∃j,K=j+1:=⟨K-1,by omega⟩
  exact .inl ⟨by rw[List.drop_of_length_le (by omega),List.drop_of_length_le (by omega)];rfl,_,by rw[zN,if_neg (by simp;omega)]⟩
 | d+1,i,K,hi,hk=>by
  obtain⟨K,rfl⟩:∃j,K=j+1:=⟨K-1,by omega⟩
  obtain⟨x,x1,x3,x2⟩:=at_ (l:=a) (i:=i) (by omega)
  obtain⟨y,y1,y3,y2⟩:=at_ (l:=b) (i:=i) (by omega)
  have hx:=H x x3 y y3
  have ih:=zfU (n:=n) H hq hl d (i+1) K (by omega) (by omega)
  rw[zN,if_pos (by simp;omega),if_pos (by simp),Int.toNat_natCast,x1,x2,y1,y2,wr1 (i:=i) (L:=a.length) (by omega) hl,eqL]
  generalize f x y=q at hx⊢
  clear x1 x2 x3 y1 y2 y3
  simp only[hx]
  cases q
  ·rw[if_neg (by simp),Bool.false_and]
   exact .inr ⟨rfl,rfl⟩
  ·rw[if_pos rfl,Bool.true_and]
   exact ih
theorem zjG {a b:List (List GCode)} {f:(List GCode)→(List GCode)→Bool} (H:∀x∈a,∀y∈b,Ev fun n=>(tab n).zca x y=some (f x y)) (hl:a.length≤140737488355328):Ev fun n=>(tab n).zac a b=some (eqL f a b):=by
 refine Ev.step (((Ev.all2 a b H).and (Ev.ge (a.length+1))).mono fun n hh=> ?_)
 rw[zex]
 simp only[zac]
 by_cases hq:a.length=b.length
 ·rw[if_neg (by simp[hq])]
  rcases zfU (n:=n) hh.1 hq hl a.length 0 n (by omega) (by omega)with ⟨h,z,g⟩ | ⟨h,g⟩
  ·rw[show((0:Nat):Int)=0 from rfl]at g
   rw[List.drop_zero,List.drop_zero]at h
   simp only[g,h]
  ·rw[show((0:Nat):Int)=0 from rfl]at g
   rw[List.drop_zero,List.drop_zero]at h
   simp only[g,h]
 ·rw[if_pos (by simp;omega),zdB hq]
theorem zgJ {t:Tab} {n:Nat} {a b:List GCode} {f:GCode→GCode→Bool} (H:∀x∈a,∀y∈b,t.zc0 x y=some (f x y)) (hq:a.length=b.length) (hl:a.length≤140737488355328):∀(d i K:Nat),i+d=a.length→d < K→(eqL f (a.drop i) (b.drop i)=true∧∃z,zX t n K b a (a.length:Int) (i:Int)=some (.inr z))∨(eqL f (a.drop i) (b.drop i)=false∧zX t n K b a (a.length:Int) (i:Int)=some (.inl false))
 | 0,i,K,hi,hk=>by
  obtain⟨K,rfl⟩:∃j,K=j+1:=⟨K-1,by omega⟩
  exact .inl ⟨by rw[List.drop_of_length_le (by omega),List.drop_of_length_le (by omega)];rfl,_,by rw[zX,if_neg (by simp;omega)]⟩
 | d+1,i,K,hi,hk=>by
  obtain⟨K,rfl⟩:∃j,K=j+1:=⟨K-1,by omega⟩
  obtain⟨x,x1,x3,x2⟩:=at_ (l:=a) (i:=i) (by omega)
  obtain⟨y,y1,y3,y2⟩:=at_ (l:=b) (i:=i) (by omega)
  have hx:=H x x3 y y3
  have ih:=zgJ (n:=n) H hq hl d (i+1) K (by omega) (by omega)
  rw[zX,if_pos (by simp;omega),if_pos (by simp),Int.toNat_natCast,x1,x2,y1,y2,wr1 (i:=i) (L:=a.length) (by omega) hl,eqL]
  generalize f x y=q at hx⊢
  clear x1 x2 x3 y1 y2 y3
  obtain⟨x1,x2,x3,⟨x4,x5,x6,x7,x8⟩,⟨x9,xa,xb⟩,xc,xd,xe⟩:=x
  obtain⟨y1,y2,y3,⟨y4,y5,y6,y7,y8⟩,⟨y9,ya,yb⟩,yc,yd,ye⟩:=y
  simp only[hx]
  cases q
  ·rw[if_neg (by simp),Bool.false_and]
   exact .inr ⟨rfl,rfl⟩
  ·rw[if_pos rfl,Bool.true_and]
   exact ih
theorem zkZ {a b:List GCode} {f:GCode→GCode→Bool} (H:∀x∈a,∀y∈b,Ev fun n=>(tab n).zc0 x y=some (f x y)) (hl:a.length≤140737488355328):Ev fun n=>(tab n).zaj a b=some (eqL f a b):=by
 refine Ev.step (((Ev.all2 a b H).and (Ev.ge (a.length+1))).mono fun n hh=> ?_)
 rw[zeM]
 simp only[zaj]
 by_cases hq:a.length=b.length
 ·rw[if_neg (by simp[hq])]
  rcases zgJ (n:=n) hh.1 hq hl a.length 0 n (by omega) (by omega)with ⟨h,z,g⟩ | ⟨h,g⟩
  ·rw[show((0:Nat):Int)=0 from rfl]at g
   rw[List.drop_zero,List.drop_zero]at h
   simp only[g,h]
  ·rw[show((0:Nat):Int)=0 from rfl]at g
   rw[List.drop_zero,List.drop_zero]at h
   simp only[g,h]
 ·rw[if_pos (by simp;omega),zdB hq]
theorem zgK {t:Tab} {n:Nat} {a b:List zh} {f:zh→zh→Bool} (H:∀x∈a,∀y∈b,t.zbh x y=some (f x y)) (hq:a.length=b.length) (hl:a.length≤140737488355328):∀(d i K:Nat),i+d=a.length→d < K→(eqL f (a.drop i) (b.drop i)=true∧∃z,zY t n K b a (a.length:Int) (i:Int)=some (.inr z))∨(eqL f (a.drop i) (b.drop i)=false∧zY t n K b a (a.length:Int) (i:Int)=some (.inl false))
 | 0,i,K,hi,hk=>by
  obtain⟨K,rfl⟩:∃j,K=j+1:=⟨K-1,by omega⟩
  exact .inl ⟨by rw[List.drop_of_length_le (by omega),List.drop_of_length_le (by omega)];rfl,_,by rw[zY,if_neg (by simp;omega)]⟩
 | d+1,i,K,hi,hk=>by
  obtain⟨K,rfl⟩:∃j,K=j+1:=⟨K-1,by omega⟩
  obtain⟨x,x1,x3,x2⟩:=at_ (l:=a) (i:=i) (by omega)
  obtain⟨y,y1,y3,y2⟩:=at_ (l:=b) (i:=i) (by omega)
  have hx:=H x x3 y y3
  have ih:=zgK (n:=n) H hq hl d (i+1) K (by omega) (by omega)
  rw[zY,if_pos (by simp;omega),if_pos (by simp),Int.toNat_natCast,x1,x2,y1,y2,wr1 (i:=i) (L:=a.length) (by omega) hl,eqL]
  generalize f x y=q at hx⊢
  clear x1 x2 x3 y1 y2 y3
  cases x
  cases y
  simp only[hx]
  cases q
  ·rw[if_neg (by simp),Bool.false_and]
   exact .inr ⟨rfl,rfl⟩
  ·rw[if_pos rfl,Bool.true_and]
   exact ih
theorem zk0 {a b:List zh} {f:zh→zh→Bool} (H:∀x∈a,∀y∈b,Ev fun n=>(tab n).zbh x y=some (f x y)) (hl:a.length≤140737488355328):Ev fun n=>(tab n).zad a b=some (eqL f a b):=by
 refine Ev.step (((Ev.all2 a b H).and (Ev.ge (a.length+1))).mono fun n hh=> ?_)
 rw[zeN]
 simp only[zad]
 by_cases hq:a.length=b.length
 ·rw[if_neg (by simp[hq])]
  rcases zgK (n:=n) hh.1 hq hl a.length 0 n (by omega) (by omega)with ⟨h,z,g⟩ | ⟨h,g⟩
  ·rw[show((0:Nat):Int)=0 from rfl]at g
   rw[List.drop_zero,List.drop_zero]at h
   simp only[g,h]
  ·rw[show((0:Nat):Int)=0 from rfl]at g
   rw[List.drop_zero,List.drop_zero]at h
   simp only[g,h]
 ·rw[if_pos (by simp;omega),zdB hq]
theorem zfh {t:Tab} {n:Nat} {a b:List GPred} {f:GPred→GPred→Bool} (H:∀x∈a,∀y∈b,t.zaS x y=some (f x y)) (hq:a.length=b.length) (hl:a.length≤140737488355328):∀(d i K:Nat),i+d=a.length→d < K→(eqL f (a.drop i) (b.drop i)=true∧∃z,zH t n K b a (a.length:Int) (i:Int)=some (.inr z))∨(eqL f (a.drop i) (b.drop i)=false∧zH t n K b a (a.length:Int) (i:Int)=some (.inl false))
 | 0,i,K,hi,hk=>by
  obtain⟨K,rfl⟩:∃j,K=j+1:=⟨K-1,by omega⟩
  exact .inl ⟨by rw[List.drop_of_length_le (by omega),List.drop_of_length_le (by omega)];rfl,_,by rw[zH,if_neg (by simp;omega)]⟩
 | d+1,i,K,hi,hk=>by
  obtain⟨K,rfl⟩:∃j,K=j+1:=⟨K-1,by omega⟩
  obtain⟨x,x1,x3,x2⟩:=at_ (l:=a) (i:=i) (by omega)
  obtain⟨y,y1,y3,y2⟩:=at_ (l:=b) (i:=i) (by omega)
  have hx:=H x x3 y y3
  have ih:=zfh (n:=n) H hq hl d (i+1) K (by omega) (by omega)
  rw[zH,if_pos (by simp;omega),if_pos (by simp),Int.toNat_natCast,x1,x2,y1,y2,wr1 (i:=i) (L:=a.length) (by omega) hl,eqL]
  generalize f x y=q at hx⊢
  clear x1 x2 x3 y1 y2 y3
  cases x
  cases y
  simp only[hx]
  cases q
  ·rw[if_neg (by simp),Bool.false_and]
   exact .inr ⟨rfl,rfl⟩
  ·rw[if_pos rfl,Bool.true_and]
   exact ih
theorem zhV {a b:List GPred} {f:GPred→GPred→Bool} (H:∀x∈a,∀y∈b,Ev fun n=>(tab n).zaS x y=some (f x y)) (hl:a.length≤140737488355328):Ev fun n=>(tab n).zZ a b=some (eqL f a b):=by
 refine Ev.step (((Ev.all2 a b H).and (Ev.ge (a.length+1))).mono fun n hh=> ?_)
 rw[zej]
 simp only[zZ]
 by_cases hq:a.length=b.length
 ·rw[if_neg (by simp[hq])]
  rcases zfh (n:=n) hh.1 hq hl a.length 0 n (by omega) (by omega)with ⟨h,z,g⟩ | ⟨h,g⟩
  ·rw[show((0:Nat):Int)=0 from rfl]at g
   rw[List.drop_zero,List.drop_zero]at h
   simp only[g,h]
  ·rw[show((0:Nat):Int)=0 from rfl]at g
   rw[List.drop_zero,List.drop_zero]at h
   simp only[g,h]
 ·rw[if_pos (by simp;omega),zdB hq]
theorem zgk {t:Tab} {n:Nat} {a b:List ByteArray} (hq:a.length=b.length) (hl:a.length≤140737488355328):∀(d i K:Nat),i+d=a.length→d < K→(eqL (fun x y=>x.toList==y.toList) (a.drop i) (b.drop i)=true∧∃z,zar t n K a b (a.length:Int) (i:Int)=some (.inr z))∨(eqL (fun x y=>x.toList==y.toList) (a.drop i) (b.drop i)=false∧zar t n K a b (a.length:Int) (i:Int)=some (.inl false))
 | 0,i,K,hi,hk=>by
  obtain⟨K,rfl⟩:∃j,K=j+1:=⟨K-1,by omega⟩
  exact .inl ⟨by rw[List.drop_of_length_le (by omega),List.drop_of_length_le (by omega)];rfl,_,by rw[zar,if_neg (by simp;omega)]⟩
 | d+1,i,K,hi,hk=>by
  obtain⟨K,rfl⟩:∃j,K=j+1:=⟨K-1,by omega⟩
  obtain⟨x,x1,x3,x2⟩:=at_ (l:=a) (i:=i) (by omega)
  obtain⟨y,y1,y3,y2⟩:=at_ (l:=b) (i:=i) (by omega)
  have ih:=zgk (t:=t) (n:=n) hq hl d (i+1) K (by omega) (by omega)
  rw[zar,if_pos (by simp;omega),if_pos (by simp),Int.toNat_natCast,x1,x2,y1,y2,wr1 (i:=i) (L:=a.length) (by omega) hl,eqL]
  dsimp only
  skip
  generalize (x.toList==y.toList)=q
  cases q
  ·rw[if_neg (by simp),Bool.false_and]
   exact .inr ⟨rfl,rfl⟩
  ·rw[if_pos rfl,Bool.true_and]
   exact ih
theorem zgl {a b:List ByteArray} (hl:a.length≤140737488355328):Ev fun n=>(tab n).slices_Equal_string a b=some (eqL (fun x y=>x.toList==y.toList) a b):=by
 refine Ev.step ((Ev.ge (a.length+1)).mono fun n hh=> ?_)
 rw[zfx]
 simp only[slices_Equal_string]
 by_cases hq:a.length=b.length
 ·rw[if_neg (by simp[hq])]
  rcases zgk (t:=tab n) (n:=n) hq hl a.length 0 n (by omega) (by omega)with ⟨h,z,g⟩ | ⟨h,g⟩
  ·rw[show((0:Nat):Int)=0 from rfl]at g
   rw[List.drop_zero,List.drop_zero]at h
   simp only[g,h]
  ·rw[show((0:Nat):Int)=0 from rfl]at g
   rw[List.drop_zero,List.drop_zero]at h
   simp only[g,h]
 ·rw[if_pos (by simp;omega),zdB hq]
theorem zij {t:Tab} {n:Nat} {a b:List Int} (hq:a.length=b.length) (hl:a.length≤140737488355328):∀(d i K:Nat),i+d=a.length→d < K→(eqL (fun x y=>x==y) (a.drop i) (b.drop i)=true∧∃z,zaC t n K a b (a.length:Int) (i:Int)=some (.inr z))∨(eqL (fun x y=>x==y) (a.drop i) (b.drop i)=false∧zaC t n K a b (a.length:Int) (i:Int)=some (.inl false))
 | 0,i,K,hi,hk=>by
  obtain⟨K,rfl⟩:∃j,K=j+1:=⟨K-1,by omega⟩
  exact .inl ⟨by rw[List.drop_of_length_le (by omega),List.drop_of_length_le (by omega)];rfl,_,by rw[zaC,if_neg (by simp;omega)]⟩
 | d+1,i,K,hi,hk=>by
  obtain⟨K,rfl⟩:∃j,K=j+1:=⟨K-1,by omega⟩
  obtain⟨x,x1,x3,x2⟩:=at_ (l:=a) (i:=i) (by omega)
  obtain⟨y,y1,y3,y2⟩:=at_ (l:=b) (i:=i) (by omega)
  have ih:=zij (t:=t) (n:=n) hq hl d (i+1) K (by omega) (by omega)
  rw[zaC,if_pos (by simp;omega),if_pos (by simp),Int.toNat_natCast,x1,x2,y1,y2,wr1 (i:=i) (L:=a.length) (by omega) hl,eqL]
  dsimp only
  rw[bne]
  generalize (x==y)=q
  cases q
  ·rw[if_pos (by simp),Bool.false_and]
   exact .inr ⟨rfl,rfl⟩
  ·rw[if_neg (by simp),Bool.true_and]
   exact ih
theorem zik {a b:List Int} (hl:a.length≤140737488355328):Ev fun n=>(tab n).slices_Equal_int a b=some (eqL (fun x y=>x==y) a b):=by
 refine Ev.step ((Ev.ge (a.length+1)).mono fun n hh=> ?_)
 rw[zge]
 simp only[slices_Equal_int]
 by_cases hq:a.length=b.length
 ·rw[if_neg (by simp[hq])]
  rcases zij (t:=tab n) (n:=n) hq hl a.length 0 n (by omega) (by omega)with ⟨h,z,g⟩ | ⟨h,g⟩
  ·rw[show((0:Nat):Int)=0 from rfl]at g
   rw[List.drop_zero,List.drop_zero]at h
   simp only[g,h]
  ·rw[show((0:Nat):Int)=0 from rfl]at g
   rw[List.drop_zero,List.drop_zero]at h
   simp only[g,h]
 ·rw[if_pos (by simp;omega),zdB hq]
theorem zgm {t:Tab} {n:Nat} {l:List ByteArray} {v:ByteArray} (hl:l.length≤140737488355328):∀(d i K:Nat),i+d=l.length→d < K→((l.drop i).any (fun y=>v.toList==y.toList)=false∧∃z,zas t n K l v (l.length:Int) (i:Int)=some (.inr z))∨((l.drop i).any (fun y=>v.toList==y.toList)=true∧∃j:Nat,zas t n K l v (l.length:Int) (i:Int)=some (.inl (j:Int)))
 | 0,i,K,hi,hk=>by
  obtain⟨K,rfl⟩:∃j,K=j+1:=⟨K-1,by omega⟩
  exact .inl ⟨by rw[List.drop_of_length_le (by omega)];rfl,_,by rw[zas,if_neg (by simp;omega)]⟩
 | d+1,i,K,hi,hk=>by
  obtain⟨K,rfl⟩:∃j,K=j+1:=⟨K-1,by omega⟩
  obtain⟨x,x1,x3,x2⟩:=at_ (l:=l) (i:=i) (by omega)
  have ih:=zgm (t:=t) (n:=n) (v:=v) hl d (i+1) K (by omega) (by omega)
  rw[zas,if_pos (by simp;omega),if_pos (by simp),Int.toNat_natCast,x1,x2,wr1 (i:=i) (L:=l.length) (by omega) hl,List.any_cons]
  dsimp only
  generalize (v.toList==x.toList)=q
  cases q
  ·rw[if_neg (by simp),Bool.false_or]
   exact ih
  ·rw[if_pos rfl,Bool.true_or]
   exact .inr ⟨rfl,i,rfl⟩
theorem zht {l:List ByteArray} {v:ByteArray} (hl:l.length≤140737488355328):Ev fun n=>(tab n).slices_Contains_string l v=some (l.any (fun y=>v.toList==y.toList)):=by
 refine Ev.step (Ev.step ((Ev.ge (l.length+1)).mono fun n hh=> ?_))
 rw[ze7]
 simp only[slices_Contains_string,zfz,slices_Index_string]
 rcases zgm (t:=tab n) (n:=n) (v:=v) hl l.length 0 n (by omega) (by omega)with ⟨h,z,g⟩ | ⟨h,j,g⟩
 ·rw[show((0:Nat):Int)=0 from rfl]at g
  rw[List.drop_zero]at h
  simp only[g,h]
  rfl
 ·rw[show((0:Nat):Int)=0 from rfl]at g
  rw[List.drop_zero]at h
  simp only[g,h]
  simp
end Go.Proofs.YtgmidllbkjdnnaaDoor.W

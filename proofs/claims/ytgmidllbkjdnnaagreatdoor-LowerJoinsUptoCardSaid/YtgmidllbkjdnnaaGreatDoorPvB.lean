/- Two values compared. -/
import Derived.Test.YtgmidllbkjdnnaaGreatDoorPvA
namespace Go.Proofs.YtgmidllbkjdnnaaGreatDoor.W
open Go.Proofs.YtgmidllbkjdnnaaGreatDoor.Flat
set_option linter.unusedVariables false
set_option linter.unusedSimpArgs false
inductive VIn:zh→Prop
 | mk {k n:Int} {s:ByteArray} {l m:List zh} (hs:s.size≤140737488355328) (hl:l.length≤1759218604391) (hm:m.length≤1759218604391) (al:∀x,x∈l→VIn x) (am:∀x,x∈m→VIn x):VIn (.mk k n s l m)
mutual
theorem zh.vin:∀a:zh,zh.In a→VIn a
 | .mk k n s l m,h=>
  have h:=zh.zmi h
  VIn.mk (by omega) (by omega) (by omega) (zh.vins l h.2.2.2.1.2) (zh.vins m h.2.2.2.2.2)
theorem zh.vins:∀l:List zh,(∀x∈l,zh.In x)→∀x,x∈l→VIn x
 | [],_,x,hx=>absurd hx (by simp)
 | y::ys,h,x,hx=>by
  rcases List.mem_cons.1 hx with e | hx
  ·rw[e]
   exact zh.vin y (h y (by simp))
  ·exact zh.vins ys (fun z hz=>h z (by simp[hz])) x hx
end
def sg (a b:Int):Int:=if a < b then-1 else if a > b then 1 else 0
def or2 (a b:Int):Int:=if a≠0 then a else b
def cmpS (a b:ByteArray):Int:=Lib.compareBytes a.data.toList b.data.toList
def cmpL (f:zh→zh→Int):List zh→List zh→Int
 | [],[]=>0
 | [],_::_=> -1
 | _::_,[]=>1
 | x::xs,y::ys=>or2 (f x y) (cmpL f xs ys)
def hd3:zh→zh→Int
 | .mk k n s _ _,.mk k' n' s' _ _=>or2 (sg k k') (or2 (sg n n') (cmpS s s'))
def cmpV:Nat→zh→zh→Int
 | 0,a,b=>hd3 a b
 | f+1,.mk k n s l m,.mk k' n' s' l' m'=>or2 (hd3 (.mk k n s l m) (.mk k' n' s' l' m')) (or2 (cmpL (cmpV f) l l') (cmpL (cmpV f) m m'))
def Sg (a:Int):Prop:=a=-1∨a=0∨a=1
theorem zp3 (a b:Int):Sg (sg a b):=by unfold sg Sg;repeat' split<;>omega
theorem zj9 {a b:Int} (h:Sg a) (g:Sg b):Sg (or2 a b):=by unfold or2;split<;>assumption
theorem zp4:∀a b:List UInt8,Sg (Lib.compareBytes a b)
 | [],[]=>by simp[Lib.compareBytes,Sg]
 | [],_::_=>by simp[Lib.compareBytes,Sg]
 | _::_,[]=>by simp[Lib.compareBytes,Sg]
 | a::xs,b::ys=>by
  rw[Lib.compareBytes]
  split
  ·simp[Sg]
  ·split
   ·simp[Sg]
   ·exact zp4 xs ys
theorem zls {f:zh→zh→Int} (hf:∀x y,Sg (f x y)):∀a b,Sg (cmpL f a b)
 | [],[]=>by simp[cmpL,Sg]
 | [],_::_=>by simp[cmpL,Sg]
 | _::_,[]=>by simp[cmpL,Sg]
 | a::xs,b::ys=>by
  rw[cmpL]
  exact zj9 (hf a b) (zls hf xs ys)
theorem zoS (a b:zh):Sg (hd3 a b):=by
 cases a;cases b
 exact zj9 (zp3 _ _) (zj9 (zp3 _ _) (zp4 _ _))
theorem zlt:∀f a b,Sg (cmpV f a b)
 | 0,a,b=>zoS a b
 | f+1,.mk ..,.mk ..=>zj9 (zoS _ _) (zj9 (zls (zlt f) _ _) (zls (zlt f) _ _))
theorem zoT (a b:Int):sg b a=-sg a b:=by unfold sg;repeat' split<;>omega
theorem zh5 {a b c d:Int} (h:c=-a) (g:d=-b):or2 c d=-or2 a b:=by unfold or2;repeat' split<;>omega
theorem zoU:∀a b:List UInt8,Lib.compareBytes b a=-Lib.compareBytes a b
 | [],[]=>by simp[Lib.compareBytes]
 | [],_::_=>by simp[Lib.compareBytes]
 | _::_,[]=>by simp[Lib.compareBytes]
 | a::xs,b::ys=>by
  have h:¬(a < b∧b < a):=fun⟨h,g⟩=>absurd (UInt8.lt_trans h g) (UInt8.lt_irrefl a)
  rw[Lib.compareBytes,Lib.compareBytes,zoU xs ys]
  by_cases h1:a < b
  ·have h2:¬b < a:=fun g=>h ⟨h1,g⟩
   simp[h1,h2]
  ·by_cases h2:b < a
   ·simp[h1,h2]
   ·simp[h1,h2]
theorem zka {f:zh→zh→Int} (hf:∀x y,f y x=-f x y):∀a b,cmpL f b a=-cmpL f a b
 | [],[]=>by simp[cmpL]
 | [],_::_=>by simp[cmpL]
 | _::_,[]=>by simp[cmpL]
 | a::xs,b::ys=>by
  rw[cmpL,cmpL]
  exact zh5 (hf a b) (zka hf xs ys)
theorem znp (a b:zh):hd3 b a=-hd3 a b:=by
 cases a;cases b
 exact zh5 (zoT _ _) (zh5 (zoT _ _) (zoU _ _))
theorem zkb:∀f a b,cmpV f b a=-cmpV f a b
 | 0,a,b=>znp a b
 | f+1,.mk ..,.mk ..=>zh5 (znp _ _) (zh5 (zka (zkb f) _ _) (zka (zkb f) _ _))
theorem zix (s:ByteArray) (i:Nat):strAt s (i:Int)=(s.data.toList[i]?).map fun b=>(b.toNat:Int):=by
 unfold strAt
 simp
 rfl
theorem zqH {t:Tab} {n:Nat} {l:List Int} (hl:l.length≤1000):∀(d i k:Nat),i+d=l.length→d < k→∃z,(zcs t n k 0 l (l.length:Int) (i:Int)=some (.inr (0,z))∧(l.drop i).foldr or2 0=0)∨zcs t n k 0 l (l.length:Int) (i:Int)=some (.inl ((l.drop i).foldr or2 0))
 | 0,i,k,hi,hk=>by
  obtain⟨k,rfl⟩:∃j,k=j+1:=⟨k-1,by omega⟩
  refine⟨_,.inl ⟨by rw[zcs,if_neg (by simp;omega)], ?_⟩⟩
  rw[List.drop_of_length_le (by omega)]
  rfl
 | d+1,i,k,hi,hk=>by
  obtain⟨k,rfl⟩:∃j,k=j+1:=⟨k-1,by omega⟩
  obtain⟨x,x1,x3,x2⟩:=at_ (l:=l) (i:=i) (by omega)
  obtain⟨z,ih⟩:=zqH (t:=t) (n:=n) hl d (i+1) k (by omega) (by omega)
  rw[zcs,if_pos (by simp;omega),if_pos (by simp),Int.toNat_natCast,x1]
  simp only
  rw[wr1 (i:=i) (L:=l.length) (by omega) (by omega),x2,List.foldr_cons,or2]
  by_cases h:x=0
  ·rw[if_neg (by simpa using h),if_neg (by simpa using h)]
   exact⟨z,ih⟩
  ·rw[if_pos (by simpa using h),if_pos (by simpa using h)]
   exact⟨z,.inr rfl⟩
theorem zqI {t:Tab} {n:Nat} {l:List Int} (hl:l.length≤1000) (hn:l.length < n):zdX t n l=some (l.foldr or2 0):=by
 unfold zdX
 obtain⟨z,h⟩:=zqH (t:=t) (n:=n) hl l.length 0 n (by omega) hn
 rw[show((0:Nat):Int)=0 from rfl,List.drop_zero]at h
 rcases h with ⟨h,g⟩ | h
 ·simp only[h,g]
 ·simp only[h]
theorem zoV:Ev fun n=>∀l:List Int,l.length≤3→(tab n).zdX l=some (l.foldr or2 0):=
 Ev.step ((Ev.ge 4).mono fun n hn l hl=>zqI (by omega) (by omega))
theorem zpD:Ev fun n=>∀a:Int,(tab n).cmp_isNaN_int a=some false:=
 Ev.step (Ev.pure fun n a=>by show cmp_isNaN_int (tab n) n a=_;simp[cmp_isNaN_int])
theorem zml:Ev fun n=>∀a b:Int,(tab n).cmp_Compare_int a b=some (sg a b):=
 Ev.step (zpD.mono fun n h a b=>by
  show cmp_Compare_int (tab n) n a b=_
  simp only[cmp_Compare_int,h,sg]
  by_cases h1:a < b
  ·simp[h1]
  ·by_cases h2:a > b
   ·simp[h1,h2]
   ·simp[h1,h2])
theorem zkU:Ev fun n=>∀a b:ByteArray,(tab n).strings_Compare a b=some (cmpS a b):=
 Ev.step (Ev.step (Ev.pure fun n a b=>rfl))
theorem zqJ {t:Tab} {n:Nat} {a b:List zh} {f:zh→zh→Int} {dp:Int} (H:∀x∈a,∀y∈b,t.za2 x y dp=some (f x y)) (ha:a.length≤1759218604391):∀(d i k:Nat),i+d=a.length→d < k→(zG t n k a b dp a (a.length:Int) (i:Int)=some (.inl (cmpL f (a.drop i) (b.drop i))))∨(∃z,zG t n k a b dp a (a.length:Int) (i:Int)=some (.inr (a,b,z))∧cmpL f (a.drop i) (b.drop i)=if a.length < b.length then-1 else 0)
 | 0,i,k,hi,hk=>by
  obtain⟨k,rfl⟩:∃j,k=j+1:=⟨k-1,by omega⟩
  right
  refine⟨_,by rw[zG,if_neg (by simp;omega)], ?_⟩
  rw[List.drop_of_length_le (l:=a) (by omega)]
  by_cases h2:i < b.length
  ·obtain⟨x,_,_,e⟩:=at_ (l:=b) (i:=i) (by omega)
   rw[e,cmpL,if_pos (by omega)]
  ·rw[List.drop_of_length_le (l:=b) (by omega),cmpL,if_neg (by omega)]
 | d+1,i,k,hi,hk=>by
  obtain⟨k,rfl⟩:∃j,k=j+1:=⟨k-1,by omega⟩
  obtain⟨x,x1,x3,x2⟩:=at_ (l:=a) (i:=i) (by omega)
  have ih:=zqJ (n:=n) H ha d (i+1) k (by omega) (by omega)
  rw[zG,if_pos (by simp;omega),if_pos (by simp),Int.toNat_natCast,x1,x2]
  by_cases hb:i < b.length
  ·obtain⟨y,y1,y3,y2⟩:=at_ (l:=b) (i:=i) hb
   have hxy:=H x x3 y y3
   rw[y1,y2,cmpL,or2]
   generalize f x y=q at hxy⊢
   cases x
   cases y
   simp only[hxy]
   rw[if_neg (by simp;omega),wr1 (i:=i) (L:=a.length) (by omega) (by omega)]
   by_cases h:q=0
   ·rw[if_neg (by simpa using h),if_neg (by simpa using h)]
    exact ih
   ·left
    rw[if_pos (by simpa using h),if_pos (by simpa using h)]
  ·left
   rw[List.drop_of_length_le (l:=b) (by omega),cmpL]
   cases x
   simp only
   rw[if_pos (by simp;omega)]
theorem zp5 {a b:List zh} {f:zh→zh→Int} {dp:Int} (H:∀x∈a,∀y∈b,Ev fun n=>(tab n).za2 x y dp=some (f x y)) (ha:a.length≤1759218604391):Ev fun n=>(tab n).zL a b dp=some (cmpL f a b):=by
 refine Ev.step (((Ev.all2 a b H).and (Ev.ge (a.length+1))).mono fun n hh=> ?_)
 show zL (tab n) n a b dp=_
 unfold zL
 rcases zqJ (n:=n) hh.1 ha a.length 0 n (by omega) (by omega)with h | ⟨z,h,g⟩
 ·rw[show((0:Nat):Int)=0 from rfl]at h
  simp only[h,List.drop_zero]
 ·obtain⟨z1,z2,z3,z4,z5⟩:=z
  rw[show((0:Nat):Int)=0 from rfl]at h
  simp only[List.drop_zero]at g
  simp only[h,zax,g]
  by_cases hb:a.length < b.length
  ·simp[hb]
  ·simp[hb]
theorem zkV:∀(f:Nat),f≤12→∀a b,VIn a→VIn b→Ev fun n=>(tab n).zbC a b (13-(f:Int))=some (cmpV f a b)
 | 0,hf,.mk k1 n1 s1 l1 m1,.mk k2 n2 s2 l2 m2,.mk ha _ _ _ _,.mk _ _ _ _ _=>by
  refine Ev.step ((zml.and (zkU.and zoV)).mono fun n hh=> ?_)
  obtain⟨h1,h2,h3⟩:=hh
  rw[zfQ]
  simp only[zbC,h1,h2,h3 [_,_,_] (by simp),cmpV,hd3,List.foldr_cons,List.foldr_nil]
  have e:or2 (cmpS s1 s2) 0=cmpS s1 s2:=by unfold or2;split<;>omega
  rw[e]
  split
  ·rfl
  ·rw[if_pos (by simp)]
 | f+1,hf,.mk k1 n1 s1 l1 m1,.mk k2 n2 s2 l2 m2,.mk ha hl hm al am,.mk _ _ _ bl bm=>by
  have H:∀x y,VIn x→VIn y→Ev fun n=>(tab n).za2 x y (13-((f+1:Nat):Int))=some (cmpV f x y):=by
   intro x y hx hy
   refine Ev.step ((zkV f (by omega) x y hx hy).mono fun n h=> ?_)
   rw[zhg]
   cases x
   cases y
   have ed:IntKind.wrap .i64 ((13-((f+1:Nat):Int))+1)=13-(f:Int):=by
    rw[wr (by omega) (by omega)]
    omega
   simp only[za2,ed,h]
  have r1:=zp5 (a:=l1) (b:=l2) (f:=cmpV f) (dp:=13-((f+1:Nat):Int)) (fun x hx y hy=>H x y (al x hx) (bl y hy)) hl
  have r2:=zp5 (a:=m1) (b:=m2) (f:=cmpV f) (dp:=13-((f+1:Nat):Int)) (fun x hx y hy=>H x y (am x hx) (bm y hy)) hm
  refine Ev.step (((zml.and (zkU.and zoV)).and (r1.and r2)).mono fun n hh=> ?_)
  obtain⟨⟨h1,h2,h3⟩,h4,h5⟩:=hh
  have hd:¬(13-((f+1:Nat):Int)) > 12:=by omega
  rw[zfQ]
  have e:∀x,or2 x 0=x:=fun x=>by unfold or2;split<;>omega
  simp only[zbC,h1,h2,h3 [_,_,_] (by simp),h3 [_,_] (by simp),cmpV,hd3,List.foldr_cons,List.foldr_nil,e,zd0,h4,h5,hd]
  generalize or2 (sg k1 k2) (or2 (sg n1 n2) (cmpS s1 s2))=q
  by_cases g:q=0
  ·subst g
   simp[or2]
  ·rw[if_pos (by simpa using g),or2,if_pos g]
def cmp (a b:zh):Int:=cmpV 12 a b
theorem zkW {a b:zh} (ha:VIn a) (hb:VIn b):Ev fun n=>(tab n).zee a b=some (cmp a b):=
 Ev.step ((zkV 12 (by omega) a b ha hb).mono fun n h=>by
  show zee (tab n) n a b=_
  cases a
  cases b
  exact h)
theorem zm7 {a b:zh} (ha:VIn a) (hb:VIn b):Ev fun n=>(tab n).zbU a b=some (cmp a b==0):=
 Ev.step ((zkW ha hb).mono fun n h=>by
  show zbU (tab n) n a b=_
  cases a
  cases b
  simp only[zbU,h])
end Go.Proofs.YtgmidllbkjdnnaaGreatDoor.W

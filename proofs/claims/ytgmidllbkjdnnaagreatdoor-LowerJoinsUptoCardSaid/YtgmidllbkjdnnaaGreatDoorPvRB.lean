/- Two values compared, by the reference. -/
import Derived.Test.YtgmidllbkjdnnaaGreatDoorPvG
namespace Go.Proofs.YtgmidllbkjdnnaaGreatDoor.W
open Go.Proofs.YtgmidllbkjdnnaaGreatDoor.Flat
set_option linter.unusedVariables false
set_option linter.unusedSimpArgs false
theorem znt (t:Tab) (n:Nat) (a b:Int):zbo t n a b=some (sg a b):=by
 unfold zbo sg
 by_cases h:a < b
 ·simp[h]
 ·by_cases g:a > b
  ·simp[h,g]
  ·simp[h,g]
theorem znu {t:Tab} {n:Nat} {a b:ByteArray} (hs:∀x y,t.zbo x y=some (sg x y)) (ha:a.size≤140737488355328):∀(d i k:Nat),i+d=min a.size b.size→d < k→(zbT t n k a b (i:Int)=some (.inl (Lib.compareBytes (a.data.toList.drop i) (b.data.toList.drop i))))∨(∃x y,zbT t n k a b (i:Int)=some (.inr (a,b,x,y))∧Lib.compareBytes (a.data.toList.drop i) (b.data.toList.drop i)=sg a.size b.size)
 | 0,i,k,hi,hk=>by
  obtain⟨k,rfl⟩:∃j,k=j+1:=⟨k-1,by omega⟩
  right
  rw[zbT]
  have la:a.data.toList.length=a.size:=by rw[Array.length_toList];rfl
  have lb:b.data.toList.length=b.size:=by rw[Array.length_toList];rfl
  by_cases h1:i < a.size
  ·have h2:¬i < b.size:=by omega
   refine⟨_,_,by rw[if_pos (by simpa using h1),if_neg (by simpa using h2)], ?_⟩
   obtain⟨x,_,_,e⟩:=at_ (l:=a.data.toList) (i:=i) (by omega)
   rw[e,List.drop_of_length_le (l:=b.data.toList) (by omega),Lib.compareBytes,sg,if_neg (by omega),if_pos (by omega)]
  ·refine⟨_,_,by rw[if_neg (by simpa using h1)], ?_⟩
   rw[List.drop_of_length_le (l:=a.data.toList) (by omega)]
   by_cases h2:i < b.size
   ·obtain⟨x,_,_,e⟩:=at_ (l:=b.data.toList) (i:=i) (by omega)
    rw[e,Lib.compareBytes,sg,if_pos (by omega)]
   ·rw[List.drop_of_length_le (l:=b.data.toList) (by omega),Lib.compareBytes,sg,if_neg (by omega),if_neg (by omega)]
 | d+1,i,k,hi,hk=>by
  obtain⟨k,rfl⟩:∃j,k=j+1:=⟨k-1,by omega⟩
  have la:a.data.toList.length=a.size:=by rw[Array.length_toList];rfl
  have lb:b.data.toList.length=b.size:=by rw[Array.length_toList];rfl
  obtain⟨x,x1,_,x2⟩:=at_ (l:=a.data.toList) (i:=i) (by omega)
  obtain⟨y,y1,_,y2⟩:=at_ (l:=b.data.toList) (i:=i) (by omega)
  have ih:=znu (n:=n) (b:=b) hs ha d (i+1) k (by omega) (by omega)
  rw[zbT,if_pos (by simp;omega),if_pos (by simp;omega),zcL,zix,zix,x1,y1]
  simp only[Option.map_some]
  rw[wr1 (i:=i) (L:=a.size) (by omega) ha,x2,y2,Lib.compareBytes]
  have hx:=x.toNat_lt
  have hy:=y.toNat_lt
  by_cases h:x=y
  ·subst h
   rw[if_neg (by simp),if_neg (UInt8.lt_irrefl x),if_neg (UInt8.lt_irrefl x)]
   exact ih
  ·have hne:x.toNat≠y.toNat:=fun e=>h (UInt8.toNat_inj.1 e)
   rw[if_pos (by simp;omega),hs,wr (by omega) (by omega),wr (by omega) (by omega)]
   left
   simp only[sg,UInt8.lt_iff_toNat_lt,Option.some.injEq,Sum.inl.injEq]
   by_cases h1:x.toNat < y.toNat
   ·rw[if_pos (by omega),if_pos h1]
   ·rw[if_neg (by omega),if_neg h1,if_pos (by omega),if_pos (by omega)]
theorem zmo {a b:ByteArray} (ha:a.size≤140737488355328):Ev fun n=>(tab n).zdY a b=some (cmpS a b):=by
 refine Ev.step (((Ev.ge (min a.size b.size+2)).and (Ev.ge 1)).mono fun n hh=> ?_)
 obtain⟨h1,h2⟩:=hh
 obtain⟨m,rfl⟩:∃m,n=m+1:=⟨n-1,by omega⟩
 have hs:∀x y,(tab (m+1)).zbo x y=some (sg x y):=fun x y=>znt (tab m) m x y
 show zdY (tab (m+1)) (m+1) a b=_
 unfold zdY
 have e:cmpS a b=Lib.compareBytes (a.data.toList.drop 0) (b.data.toList.drop 0):=by simp[cmpS]
 rcases znu (n:=m+1) (b:=b) hs ha (min a.size b.size) 0 (m+1) (by omega) (by omega)with h | ⟨x,y,h,g⟩
 ·rw[show((0:Nat):Int)=0 from rfl]at h
  simp only[h,e]
 ·rw[show((0:Nat):Int)=0 from rfl]at h
  simp only[h,zep,hs,e,g]
theorem zo3 {t:Tab} {n:Nat} {a b:List zh} {f:zh→zh→Int} {dp:Int} (H:∀x∈a,∀y∈b,t.zaG x y dp=some (f x y)) (ha:a.length≤1759218604391):∀(d i k:Nat),i+d=min a.length b.length→d < k→(zco t n k a b dp (i:Int)=some (.inl (cmpL f (a.drop i) (b.drop i))))∨(∃x y z,zco t n k a b dp (i:Int)=some (.inr (a,b,x,y,z))∧cmpL f (a.drop i) (b.drop i)=sg a.length b.length)
 | 0,i,k,hi,hk=>by
  obtain⟨k,rfl⟩:∃j,k=j+1:=⟨k-1,by omega⟩
  right
  rw[zco]
  by_cases h1:i < a.length
  ·have h2:¬i < b.length:=by omega
   refine⟨_,_,_,by rw[if_pos (by simpa using h1),if_neg (by simpa using h2)], ?_⟩
   obtain⟨x,_,_,e⟩:=at_ (l:=a) (i:=i) (by omega)
   rw[e,List.drop_of_length_le (l:=b) (by omega),cmpL,sg,if_neg (by omega),if_pos (by omega)]
  ·refine⟨_,_,_,by rw[if_neg (by simpa using h1)], ?_⟩
   rw[List.drop_of_length_le (l:=a) (by omega)]
   by_cases h2:i < b.length
   ·obtain⟨x,_,_,e⟩:=at_ (l:=b) (i:=i) (by omega)
    rw[e,cmpL,sg,if_pos (by omega)]
   ·rw[List.drop_of_length_le (l:=b) (by omega),cmpL,sg,if_neg (by omega),if_neg (by omega)]
 | d+1,i,k,hi,hk=>by
  obtain⟨k,rfl⟩:∃j,k=j+1:=⟨k-1,by omega⟩
  obtain⟨x,x1,x3,x2⟩:=at_ (l:=a) (i:=i) (by omega)
  obtain⟨y,y1,y3,y2⟩:=at_ (l:=b) (i:=i) (by omega)
  have ih:=zo3 (n:=n) H ha d (i+1) k (by omega) (by omega)
  have hxy:=H x x3 y y3
  rw[zco,if_pos (by simp;omega),if_pos (by simp;omega),zde,if_pos (by simp),Int.toNat_natCast,x1,y1,x2,y2,cmpL,or2]
  generalize f x y=q at hxy⊢
  cases x
  cases y
  simp only[hxy]
  rw[wr1 (i:=i) (L:=a.length) (by omega) (by omega)]
  by_cases h:q=0
  ·rw[if_neg (by simpa using h),if_neg (by simpa using h)]
   exact ih
  ·left
   rw[if_pos (by simpa using h),if_pos (by simpa using h)]
theorem zpG {t:Tab} {n:Nat} {a b:List zh} {f:zh→zh→Int} {dp:Int} (H:∀x∈a,∀y∈b,t.zaG x y dp=some (f x y)) (hs:∀x y,t.zbo x y=some (sg x y)) (ha:a.length≤1759218604391) (hn:min a.length b.length < n):zdV t n a b dp=some (cmpL f a b):=by
 unfold zdV
 rcases zo3 (n:=n) H ha (min a.length b.length) 0 n (by omega) (by omega)with h | ⟨x,y,z,h,g⟩
 ·rw[show((0:Nat):Int)=0 from rfl]at h
  simp only[h,List.drop_zero]
 ·rw[show((0:Nat):Int)=0 from rfl]at h
  simp only[List.drop_zero]at g
  simp only[h,zey,hs,g]
theorem zke:Ev fun n=>∀x y,(tab n).zbo x y=some (sg x y):=
 Ev.step (Ev.pure fun n x y=>znt (tab n) n x y)
theorem znv {a b:List zh} {f:zh→zh→Int} {dp:Int} (H:∀x∈a,∀y∈b,Ev fun n=>(tab n).zaG x y dp=some (f x y)) (ha:a.length≤1759218604391):Ev fun n=>(tab n).zdV a b dp=some (cmpL f a b):=
 Ev.step (((Ev.all2 a b H).and (zke.and (Ev.ge (min a.length b.length+1)))).mono fun n hh=>zpG hh.1 hh.2.1 ha (by omega))
theorem zhd:∀(f:Nat),f≤12→∀a b,VIn a→VIn b→Ev fun n=>(tab n).zaG a b (13-(f:Int))=some (cmpV f a b)
 | 0,hf,.mk k1 n1 s1 l1 m1,.mk k2 n2 s2 l2 m2,.mk ha _ _ _ _,.mk _ _ _ _ _=>by
  refine Ev.step ((zke.and (zmo (b:=s2) ha)).mono fun n hh=> ?_)
  obtain⟨h1,h2⟩:=hh
  rw[zfP]
  simp only[zaG,h1,zcJ,h2,zcI,zba,zcH,zcG,cmpV,hd3,or2]
  by_cases e1:sg k1 k2=0<;>by_cases e2:sg n1 n2=0<;>by_cases e3:cmpS s1 s2=0<;>simp[e1,e2,e3]
 | f+1,hf,.mk k1 n1 s1 l1 m1,.mk k2 n2 s2 l2 m2,.mk ha hl hm al am,.mk _ _ _ bl bm=>by
  have ed:IntKind.wrap .i64 ((13-((f+1:Nat):Int))+1)=13-(f:Int):=by
   rw[wr (by omega) (by omega)]
   omega
  have r1:=znv (a:=l1) (b:=l2) (f:=cmpV f) (dp:=13-(f:Int)) (fun x hx y hy=>zhd f (by omega) x y (al x hx) (bl y hy)) hl
  have r2:=znv (a:=m1) (b:=m2) (f:=cmpV f) (dp:=13-(f:Int)) (fun x hx y hy=>zhd f (by omega) x y (am x hx) (bm y hy)) hm
  refine Ev.step (((zke.and (zmo (b:=s2) ha)).and (r1.and r2)).mono fun n hh=> ?_)
  obtain⟨⟨h1,h2⟩,h3,h4⟩:=hh
  have hd:(13-((f+1:Nat):Int))≤12:=by omega
  generalize (13-((f+1:Nat):Int))=dp at ed hd⊢
  rw[zfP]
  simp only[zaG,h1,zcJ,h2,zcI,zba,zcH,zcG,cmpV,hd3,or2,ed,h3,h4,hd]
  by_cases e1:sg k1 k2=0<;>by_cases e2:sg n1 n2=0<;>by_cases e3:cmpS s1 s2=0<;>by_cases e4:cmpL (cmpV f) l1 l2=0<;>simp[e1,e2,e3,e4,hd,ed,h4]
theorem zon {a b:zh} (ha:VIn a) (hb:VIn b):Ev fun n=>(tab n).zeB a b=some (cmp a b):=
 Ev.step ((zhd 12 (by omega) a b ha hb).mono fun n h=>by
  show zeB (tab n) n a b=_
  cases a
  cases b
  exact h)
theorem zm9 {a b:zh} (ha:VIn a) (hb:VIn b):Ev fun n=>(tab n).zcD a b=some (cmp a b==0):=
 Ev.step ((zhd 12 (by omega) a b ha hb).mono fun n h=>by
  show zcD (tab n) n a b=_
  cases a
  cases b
  have h:(tab n).zaG _ _ 1=_:=h
  simp only[zcD,h,cmp])
end Go.Proofs.YtgmidllbkjdnnaaGreatDoor.W

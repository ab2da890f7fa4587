/- May a predicate be, by the reference? -/
import Derived.Test.YtgmidllbkjdnnaaGreatDoorPvRC
namespace Go.Proofs.YtgmidllbkjdnnaaGreatDoor.W
open Go.Proofs.YtgmidllbkjdnnaaGreatDoor.Flat
set_option linter.unusedVariables false
set_option linter.unusedSimpArgs false
theorem zmp {t:Tab} {N:Nat} {dp k:Int} {v:List zh} {p:List GPred} {X:Bool} (hd:¬dp > 12) (hX:arOK k v.length p.length=true→zdC t N dp v.length p.length k v p=some X):zbp t N (.mk k v p) dp=some (arOK k v.length p.length&&X):=by
 simp only[zbp]
 generalize hga:(v.length:Int)=a at hX⊢
 generalize hgb:(p.length:Int)=b at hX⊢
 have hj5:∀ok,zaF t N dp a b ok k v p=if ok=true then zdC t N dp a b k v p else some false:=by
  intro ok
  rw[zaF,if_neg (c:=decide (dp > 12)=true) (by simpa using hd)]
 have close:∀ok,ok=arOK k a b→(if ok=true then zdC t N dp a b k v p else some false)=some (arOK k a b&&X):=by
  intro ok e
  rw[e]
  cases h:arOK k a b
  ·rfl
  ·rw[if_pos rfl,hX h]
   rfl
 by_cases c1:1≤k∧k≤6
 ·have hk:k=1∨k=2∨k=3∨k=4∨k=5∨k=6:=by omega
  by_cases e1:a=1
  ·subst e1
   rcases hk with rfl | rfl | rfl | rfl | rfl | rfl<;>simp[zZ]<;>rw[hj5]<;>exact close _ (by simp[arOK];rw[Bool.eq_iff_iff];simp)
  ·rcases hk with rfl | rfl | rfl | rfl | rfl | rfl<;>simp[zZ,e1,hj5,arOK]
 ·by_cases c2:7≤k∧k≤9
  ·have hk:k=7∨k=8∨k=9:=by omega
   by_cases e1:a=2
   ·subst e1
    rcases hk with rfl | rfl | rfl<;>simp[zZ,zaD]<;>rw[hj5]<;>exact close _ (by simp[arOK];rw[Bool.eq_iff_iff];simp)
   ·rcases hk with rfl | rfl | rfl<;>simp[zZ,zaD,e1,hj5,arOK]
  ·by_cases c3:k=10∨k=11
   ·by_cases e1:a≤1000
    ·rcases c3 with rfl | rfl<;>simp[zZ,zaD,zaW,e1]<;>rw[hj5]<;>exact close _ (by simp[arOK,e1];rw[Bool.eq_iff_iff];simp)
    ·rcases c3 with rfl | rfl<;>simp[zZ,zaD,zaW,e1,hj5,arOK]
   ·by_cases c4:k=12
    ·subst c4
     by_cases e1:a=0
     ·subst e1
      simp[zZ,zaD,zaW]
      rw[hj5]
      exact close _ (by simp[arOK];rw[Bool.eq_iff_iff];simp)
     ·simp[zZ,zaD,zaW,e1,hj5,arOK]
    ·by_cases c5:k=13∨k=14
     ·by_cases e1:a=0
      ·subst e1
       by_cases e2:2≤b
       ·rcases c5 with rfl | rfl<;>simp[zZ,zaD,zaW,zbQ,e2]<;>rw[hj5]<;>exact close _ (by simp[arOK,e2])
       ·rcases c5 with rfl | rfl<;>simp[zZ,zaD,zaW,zbQ,e2,arOK]<;>rw[hj5]<;>simp
      ·rcases c5 with rfl | rfl<;>simp[zZ,zaD,zaW,zbQ,e1,hj5,arOK]
     ·have nn:∀j:Int,1≤j→j≤14→k≠j:=by
       intro j h1 h2 e
       subst e
       omega
      have m1:=nn 1 (by omega) (by omega)
      have m2:=nn 2 (by omega) (by omega)
      have m3:=nn 3 (by omega) (by omega)
      have m4:=nn 4 (by omega) (by omega)
      have m5:=nn 5 (by omega) (by omega)
      have m6:=nn 6 (by omega) (by omega)
      have m7:=nn 7 (by omega) (by omega)
      have m8:=nn 8 (by omega) (by omega)
      have m9:=nn 9 (by omega) (by omega)
      have m10:=nn 10 (by omega) (by omega)
      have m11:=nn 11 (by omega) (by omega)
      have m13:=nn 13 (by omega) (by omega)
      have m14:=nn 14 (by omega) (by omega)
      simp[zZ,zaD,zaW,zbQ,m1,m2,m3,m4,m5,m6,m7,m8,m9,m10,m11,c4,m13,m14,hj5,arOK,c1,c2]
theorem rr7 {t:Tab} {n:Nat} {dp b k:Int} {v:List zh} {p:List GPred} (H:∀x∈v,t.zce x=some (if okV x then 0 else 2)) (hl:v.length≤1759218604391):∀(d i K:Nat),i+d=v.length→d < K→((v.drop i).all okV=true∧∃z1 z2,zbR t n K dp (v.length:Int) b (i:Int) k v p=some (.inr (dp,(v.length:Int),b,z1,z2,k,v,p)))∨((v.drop i).all okV=false∧zbR t n K dp (v.length:Int) b (i:Int) k v p=some (.inl false))
 | 0,i,K,hi,hk=>by
  obtain⟨K,rfl⟩:∃j,K=j+1:=⟨K-1,by omega⟩
  exact .inl ⟨by rw[List.drop_of_length_le (by omega)];rfl,_,_,by rw[zbR,if_neg (by simp;omega)]⟩
 | d+1,i,K,hi,hk=>by
  obtain⟨K,rfl⟩:∃j,K=j+1:=⟨K-1,by omega⟩
  obtain⟨x,x1,x3,x2⟩:=at_ (l:=v) (i:=i) (by omega)
  have hx:=H x x3
  have ih:=rr7 (n:=n) (dp:=dp) (b:=b) (k:=k) (p:=p) H hl d (i+1) K (by omega) (by omega)
  rw[zbR,if_pos (by simp;omega),if_pos (by simp),Int.toNat_natCast,x1,x2,wr1 (i:=i) (L:=v.length) (by omega) (by omega),List.all_cons]
  generalize okV x=q at hx⊢
  cases x
  simp only[hx]
  cases q
  ·exact .inr ⟨by simp,by simp⟩
  ·simpa using ih
theorem rr9 {t:Tab} {n:Nat} {dp k:Int} {v:List zh} {p:List GPred} {P:GPred→Bool} (H:∀x∈p,t.zbp x (IntKind.wrap .i64 (dp+1))=some (P x)) (hl:p.length≤2513169434844):∀(d i K:Nat),i+d=p.length→d < K→((p.drop i).all P=true∧∃z,zbS t n K dp (p.length:Int) (i:Int) k v p=some (.inr z))∨((p.drop i).all P=false∧zbS t n K dp (p.length:Int) (i:Int) k v p=some (.inl false))
 | 0,i,K,hi,hk=>by
  obtain⟨K,rfl⟩:∃j,K=j+1:=⟨K-1,by omega⟩
  exact .inl ⟨by rw[List.drop_of_length_le (by omega)];rfl,_,by rw[zbS,if_neg (by simp;omega)]⟩
 | d+1,i,K,hi,hk=>by
  obtain⟨K,rfl⟩:∃j,K=j+1:=⟨K-1,by omega⟩
  obtain⟨x,x1,x3,x2⟩:=at_ (l:=p) (i:=i) (by omega)
  have hx:=H x x3
  have ih:=rr9 (n:=n) (k:=k) (v:=v) H hl d (i+1) K (by omega) (by omega)
  rw[zbS,if_pos (by simp;omega),if_pos (by simp),Int.toNat_natCast,x1,x2,wr1 (i:=i) (L:=p.length) (by omega) (by omega),List.all_cons]
  generalize P x=q at hx⊢
  cases x
  simp only[hx]
  cases q
  ·exact .inr ⟨by simp,by simp⟩
  ·simpa using ih
theorem zpH (t:Tab) (n:Nat) (dp a b:Int) (ok:Bool) (k:Int) (c:Bool) (v:List zh) (p:List GPred):∃q,zZ t n dp a b ok k c k v p=some (dp,a,b,q,k,v,p):=by
 have j4:∀c,∃q,zbQ t n dp a b ok c k v p=some (dp,a,b,q,k,v,p):=by
  intro c
  unfold zbQ
  repeat' split
  all_goals exact⟨_,rfl⟩
 have j3:∀c,∃q,zaW t n dp a b ok k c k v p=some (dp,a,b,q,k,v,p):=by
  intro c
  unfold zaW
  repeat' split
  all_goals first | exact⟨_,rfl⟩ | exact j4 _
 have j2:∀c,∃q,zaD t n dp a b ok k c k v p=some (dp,a,b,q,k,v,p):=by
  intro c
  unfold zaD
  repeat' split
  all_goals first | exact⟨_,rfl⟩ | exact j3 _
 unfold zZ
 repeat' split
 all_goals first | exact⟨_,rfl⟩ | exact j2 _
theorem zkY:∀(f:Nat),f≤12→∀a,PIn a→Ev fun n=>(tab n).zbp a (13-(f:Int))=some (zeY f a)
 | 0,hf,.mk k v p,_=>by
  refine Ev.step (Ev.pure fun n=> ?_)
  rw[zgC]
  have e:∀a b ok,zaF (tab n) n (13-((0:Nat):Int)) a b ok k v p=some false:=by
   intro a b ok
   rw[zaF]
   cases ok
   ·rfl
   ·rw[if_pos rfl,if_pos (by simp)]
  have e1:∀c,(match zZ (tab n) n (13-((0:Nat):Int)) (v.length:Int) (p.length:Int) false k c k v p with
   | some (a5,a6,a7,a8,a9,a10,a11)=>zaF (tab n) n a5 a6 a7 a8 a9 a10 a11
   | none=>none)=some false:=by
   intro c
   obtain⟨q,hq⟩:=zpH (tab n) n (13-((0:Nat):Int)) (v.length:Int) (p.length:Int) false k c v p
   rw[hq]
   exact e _ _ _
  simp only[zbp]
  split
  ·exact e1 _
  split
  ·exact e1 _
  split
  ·exact e1 _
  split
  ·exact e1 _
  split
  ·exact e1 _
  exact e1 _
 | f+1,hf,.mk k v p,.mk hv hp av ap=>by
  have ed:IntKind.wrap .i64 ((13-((f+1:Nat):Int))+1)=13-(f:Int):=by
   rw[wr (by omega) (by omega)]
   omega
  have hd:¬(13-((f+1:Nat):Int)) > 12:=by omega
  generalize (13-((f+1:Nat):Int))=dp at ed hd⊢
  have r1:=Ev.all p fun x hx=>zkY f (by omega) x (ap x hx)
  have r2:=Ev.all v fun x hx=>ziT (av x hx)
  refine Ev.step ((r1.and (r2.and (Ev.ge (v.length+p.length+1)))).mono fun n hh=> ?_)
  obtain⟨h1,h2,h3⟩:=hh
  rw[←ed]at h1
  rw[zgC,zmp (X:=v.all okV&&p.all (zeY f)) hd ?_]
  ·rfl
  ·intro _
   have a1:=rr7 (n:=n) (dp:=dp) (b:=(p.length:Int)) (k:=k) (p:=p) h2 hv v.length 0 n (by omega) (by omega)
   have a2:=rr9 (n:=n) (k:=k) (v:=v) (P:=zeY f) h1 hp p.length 0 n (by omega) (by omega)
   rw[show((0:Nat):Int)=0 from rfl,List.drop_zero]at a1 a2
   rw[zdC]
   rcases a1 with ⟨b1,z1,z2,b2⟩ | ⟨b1,b2⟩
   ·simp only[b1,b2,zeo]
    rcases a2 with ⟨c1,z3,c2⟩ | ⟨c1,c2⟩
    ·simp only[c1,c2,Bool.true_and]
    ·simp only[c1,c2,Bool.true_and]
   ·simp only[b1,b2,Bool.false_and]
theorem zlv {a:GPred} (ha:PIn a):Ev fun n=>(tab n).zdB a=some (if okP a then 0 else 2):=
 Ev.step ((zkY 12 (by omega) a ha).mono fun n h=>by
  cases a
  have h:(tab n).zbp _ 1=_:=h
  rw[zi4,zdB,h,okP]
  cases zeY 12 _<;>rfl)
end Go.Proofs.YtgmidllbkjdnnaaGreatDoor.W

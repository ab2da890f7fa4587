/- May a predicate be? -/
import Derived.Test.YtgmidllbkjdnnaaGreatDoorPvD
namespace Go.Proofs.YtgmidllbkjdnnaaGreatDoor.W
open Go.Proofs.YtgmidllbkjdnnaaGreatDoor.Flat
set_option linter.unusedVariables false
set_option linter.unusedSimpArgs false
inductive PIn:GPred→Prop
 | mk {k:Int} {v:List zh} {p:List GPred} (hv:v.length≤1759218604391) (hp:p.length≤2513169434844) (av:∀x,x∈v→VIn x) (ap:∀x,x∈p→PIn x):PIn (.mk k v p)
mutual
theorem GPred.pin:∀a:GPred,GPred.In a→PIn a
 | .mk k v p,h=>
  have h:=GPred.zmi h
  PIn.mk (by omega) (by omega) (fun x hx=>zh.vin x (h.2.1.2 x hx)) (GPred.pins p h.2.2.2)
theorem GPred.pins:∀l:List GPred,(∀x∈l,GPred.In x)→∀x,x∈l→PIn x
 | [],_,x,hx=>absurd hx (by simp)
 | y::ys,h,x,hx=>by
  rcases List.mem_cons.1 hx with e | hx
  ·rw[e]
   exact GPred.pin y (h y (by simp))
  ·exact GPred.pins ys (fun z hz=>h z (by simp[hz])) x hx
end
def arOK (k a b:Int):Bool:=
 if 1≤k∧k≤6 then decide (a=1∧b=0)
 else if 7≤k∧k≤9 then decide (a=2∧b=0)
 else if k=10∨k=11 then decide (a≤1000∧b=0)
 else if k=12 then decide (a=0∧b=1)
 else if k=13∨k=14 then decide (a=0∧2≤b∧b≤1000)
 else false
def zeY:Nat→GPred→Bool
 | 0,_=>false
 | f+1,.mk k v p=>arOK k v.length p.length&&(v.all okV&&p.all (zeY f))
theorem zmn {t:Tab} {N:Nat} {dp k:Int} {v:List zh} {p:List GPred} {X:Bool} (ha:∀k,t.zcP k=zcP t N k) (hd:¬dp > 12) (hX:zeg t N k v p dp=some X):zcO t N (.mk k v p) dp=some (arOK k v.length p.length&&X):=by
 simp only[zcO,ha,hX]
 have hd':decide (dp > 12)=false:=by simpa using hd
 rw[hd']
 have hva:(0:Int)≤v.length:=by omega
 have hb0:(0:Int)≤p.length:=by omega
 generalize (v.length:Int)=a at hva⊢
 generalize (p.length:Int)=b at hb0⊢
 simp only[zcP,zbn,zcW,zcV]
 by_cases c1:1≤k∧k≤6
 ·simp only[arOK,if_pos c1]
  rw[if_pos (by simpa using c1.1),if_pos (by simpa using c1.2)]
  by_cases e1:a=1<;>by_cases e2:b=0
  ·simp[e1,e2]
  ·have:b > 0:=by omega
   simp[e1,e2,this]
  all_goals
   have:a < 1∨a > 1:=by omega
   rcases this with h | h
   ·simp[h,e1]
   ·have h':¬a < 1:=by omega
    simp[h,h',e1]
 ·by_cases c2:7≤k∧k≤9
  ·have g1:1≤k:=by omega
   have g2:¬k≤6:=by omega
   simp only[arOK,if_neg c1,if_pos c2]
   rw[if_pos (by simpa using g1),if_neg (by simpa using g2),if_pos (by simpa using c2.1),if_pos (by simpa using c2.2)]
   by_cases e1:a=2<;>by_cases e2:b=0
   ·simp[e1,e2]
   ·have:b > 0:=by omega
    simp[e1,e2,this]
   all_goals
    have:a < 2∨a > 2:=by omega
    rcases this with h | h
    ·simp[h,e1]
    ·have h':¬a < 2:=by omega
     simp[h,h',e1]
  ·by_cases c3:k=10∨k=11
   ·have ha0:¬a < 0:=by omega
    by_cases e1:a≤1000
    ·have f1:¬1000 < a:=by omega
     by_cases e2:b=0
     ·rcases c3 with rfl | rfl<;>simp[arOK,e1,e2,ha0,f1]
     ·have f2:0 < b:=by omega
      have f3:¬b < 0:=by omega
      rcases c3 with rfl | rfl<;>simp[arOK,e1,e2,ha0,f1,f2,f3]
    ·have f1:1000 < a:=by omega
     rcases c3 with rfl | rfl<;>simp[arOK,e1,ha0,f1]
   ·by_cases c4:k=12
    ·subst c4
     have ha0:¬a < 0:=by omega
     by_cases e1:a=0
     ·by_cases e2:b=1
      ·simp[arOK,e1,e2]
      ·have f2:b < 1∨1 < b:=by omega
       rcases f2 with f2 | f2
       ·simp[arOK,e1,e2,f2]
       ·have f3:¬b < 1:=by omega
        simp[arOK,e1,e2,f2,f3]
     ·have f1:0 < a:=by omega
      simp[arOK,e1,f1,ha0]
    ·by_cases c5:k=13∨k=14
     ·have ha0:¬a < 0:=by omega
      by_cases e1:a=0
      ·by_cases e2:2≤b
       ·have f2:¬b < 2:=by omega
        by_cases e3:b≤1000
        ·have f3:¬1000 < b:=by omega
         rcases c5 with rfl | rfl<;>simp[arOK,e1,e2,e3,f2,f3]
        ·have f3:1000 < b:=by omega
         rcases c5 with rfl | rfl<;>simp[arOK,e1,e2,e3,f2,f3]
       ·have f2:b < 2:=by omega
        rcases c5 with rfl | rfl<;>simp[arOK,e1,e2,f2]
      ·have f1:0 < a:=by omega
       rcases c5 with rfl | rfl<;>simp[arOK,e1,f1,ha0]
     ·have n1:¬(k=10):=by omega
      have n2:¬(k=11):=by omega
      have n3:¬(k=13):=by omega
      have n4:¬(k=14):=by omega
      simp only[arOK,if_neg c1,if_neg c2,if_neg c3,if_neg c4,if_neg c5,Bool.false_and]
      by_cases d1:1≤k
      ·have d2:¬k≤6:=by omega
       by_cases d3:7≤k
       ·have d4:¬k≤9:=by omega
        by_cases e1:a < 1
        ·simp[d1,d2,d3,d4,n1,n2,n3,n4,c4,e1]
        ·have e2:a > 0:=by omega
         simp[d1,d2,d3,d4,n1,n2,n3,n4,c4,e1,e2]
       ·omega
      ·have d3:¬7≤k:=by omega
       by_cases e1:a < 1
       ·simp[d1,d3,n1,n2,n3,n4,c4,e1]
       ·have e2:a > 0:=by omega
        simp[d1,d3,n1,n2,n3,n4,c4,e1,e2]
theorem zoj (t:Tab) (n:Nat) (k:Int):∃q,zcP t n k=some q:=by
 have j3:∀b,∃q,zcV t n k b=some q:=by
  intro b
  unfold zcV
  repeat' split
  all_goals exact⟨_,rfl⟩
 have j2:∀b,∃q,zcW t n k b=some q:=by
  intro b
  unfold zcW
  split
  ·exact⟨_,rfl⟩
  ·split<;>exact j3 _
 have j1:∀b,∃q,zbn t n k b=some q:=by
  intro b
  unfold zbn
  split
  ·exact⟨_,rfl⟩
  ·split<;>exact j2 _
 simp only[zcP]
 split
 ·obtain⟨q,hq⟩:=j1 (decide (k≤6))
  rw[hq]
  rcases q with ⟨_,_,_,_⟩ | ⟨⟩<;>exact⟨_,rfl⟩
 ·obtain⟨q,hq⟩:=j1 false
  rw[hq]
  rcases q with ⟨_,_,_,_⟩ | ⟨⟩<;>exact⟨_,rfl⟩
theorem zkX:∀(f:Nat),f≤12→∀a,PIn a→Ev fun n=>(tab n).zcO a (13-(f:Int))=some (zeY f a)
 | 0,hf,.mk k v p,_=>by
  have r:Ev fun n=>∀k,(tab n).zcP k=zcP (tab n) n k:=Ev.step (Ev.pure fun n k=>rfl)
  refine Ev.step (r.mono fun n h=> ?_)
  rw[zgX,zcO,h]
  obtain⟨⟨q1,q2,q3,q4⟩,hq⟩:=zoj (tab n) n k
  simp only[hq]
  rw[if_pos (by simp)]
  rfl
 | f+1,hf,.mk k v p,.mk hv hp av ap=>by
  have ed:IntKind.wrap .i64 ((13-((f+1:Nat):Int))+1)=13-(f:Int):=by
   rw[wr (by omega) (by omega)]
   omega
  have hd:¬(13-((f+1:Nat):Int)) > 12:=by omega
  generalize (13-((f+1:Nat):Int))=dp at ed hd⊢
  have r:Ev fun n=>∀k,(tab n).zcP k=zcP (tab n) n k:=Ev.step (Ev.pure fun n k=>rfl)
  have r1:=zkc (l:=p) (dp:=dp) (g:=fun x=> !zeY f x) (fun x hx=>Ev.step ((zkX f (by omega) x (ap x hx)).mono fun n h=>by
   cases x
   rw[ziv,zcx,ed,h])) (by omega)
  have r2:=zkd (l:=v) (g:=fun x=> !okV x) (fun x hx=>Ev.step ((ziS (av x hx)).mono fun n h=>by
   cases x
   rw[ziw,zcy,h]
   cases okV _<;>rfl)) (by omega)
  refine Ev.step ((r.and (r1.and r2)).mono fun n hh=> ?_)
  obtain⟨h,h1,h2⟩:=hh
  rw[zgX,zmn (X:=v.all okV&&p.all (zeY f)) h hd ?_]
  ·rfl
  ·simp only[zeg,h1,h2]
   have e1:(p.any fun x=> !zeY f x)= !p.all (zeY f):=by rw[List.not_all_eq_any_not]
   have e2:(v.any fun x=> !okV x)= !v.all okV:=by rw[List.not_all_eq_any_not]
   rw[e1,e2]
   cases p.all (zeY f)<;>cases v.all okV<;>rfl
def okP (a:GPred):Bool:=zeY 12 a
theorem zlu {a:GPred} (ha:PIn a):Ev fun n=>(tab n).zds a=some (if okP a then 0 else 2):=
 Ev.step ((zkX 12 (by omega) a ha).mono fun n h=>by
  cases a
  have h:(tab n).zcO _ 1=_:=h
  rw[zj4,zds,h,okP]
  cases zeY 12 _<;>rfl)
theorem zok {f:Nat} {k:Int} {v:List zh} {p:List GPred} (h:zeY (f+1) (.mk k v p)=true):arOK k v.length p.length=true∧(∀x∈v,okV x=true)∧∀x∈p,zeY f x=true:=by
 rw[zeY,Bool.and_eq_true,Bool.and_eq_true,List.all_eq_true,List.all_eq_true]at h
 exact h
end Go.Proofs.YtgmidllbkjdnnaaGreatDoor.W

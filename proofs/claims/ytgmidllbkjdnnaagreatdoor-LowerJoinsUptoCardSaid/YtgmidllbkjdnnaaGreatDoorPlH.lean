/- One step round a plan. -/
import Derived.Test.YtgmidllbkjdnnaaGreatDoorPlG
namespace Go.Proofs.YtgmidllbkjdnnaaGreatDoor.W
open Go.Proofs.YtgmidllbkjdnnaaGreatDoor.Flat
set_option linter.unusedVariables false
set_option linter.unusedSimpArgs false
theorem zpd (a:zh):cmp a a=0:=by
 have:=zkb 12 a a
 unfold cmp
 omega
def wh (op:Int) (T:List (List GStep)) (B:List GBy):GStep:=.mk op [] [] (.mk 0 0 ByteArray.empty [] []) (.mk 0 [] []) T B []
theorem zqM (op:Int) (a:List GStep):wL [wh op [a] []]≤wL a+30:=by
 simp only[wh,wL,List.map_cons,List.map_nil,wts,GStep.t,zh.t,GPred.t,T.wt,texts,zA,zh.ts,GPred.ts,GBy.ts,zo,GStep.zl]
 show _≤_
 have:ByteArray.empty.size=0:=rfl
 omega
theorem zoq:(cmp (.mk 0 0 ByteArray.empty [] []) zv==0)=true:=by
 have:cmp (.mk 0 0 ByteArray.empty [] []) zv=0:=zpd zv
 rw[this]
 rfl
theorem zqv (op:Int) (a:List GStep):inn (wh op [a] [])=[a]:=rfl
theorem zpR {R:List GStep→Bool} (a:List GStep):stepF R (wh 28 [a] [])=R a:=by
 have e:shF 28=.mk (.mk 0 0) (.mk 0 0) (.mk 1 1) (.mk 0 0) false false:=rfl
 have h1:zdy (wh 28 [a] []) (shF 28)=true:=by rw[e];rfl
 have h2:restF R (wh 28 [a] []) (shF 28)=true:=by
  rw[e]
  show((((((true&&true)&&true)&&(cmp (.mk 0 0 ByteArray.empty [] []) zv==0))&&true)&&true)=true)
  rw[zoq]
  rfl
 show((((decide ((1:Int)≤28∧(28:Int)≤51)&&zdy (wh 28 [a] []) (shF 28))&&restF R (wh 28 [a] []) (shF 28))&&[a].all R)&&true)=R a
 rw[h1,h2]
 simp
theorem zpS {x:GStep} {a:List GStep} (hx:inn x=[a]) (g:Nat):cntN (g+1) [x]=1+cntN g a:=by
 rw[cntN]
 simp only[List.map_cons,List.map_nil,hx,List.sum_cons,List.sum_nil]
 omega
theorem zg4 {a:List GStep} (h:okL2 a=true):cntN 12 a≤400∧zb1 11 a=true∧nn 12 a≤11∧cntN 11 a=cntN 12 a∧(zb1 10 a=true↔nn 12 a≤10)∧zgu a=(cntN 12 a:Int)∧(nn 12 a≤10→nn 11 a=nn 12 a):=by
 unfold okL2 at h
 rw[Bool.and_eq_true,decide_eq_true_eq]at h
 obtain⟨h1,h2⟩:=h
 have h3:=zgt 11 a h2 12
 have h4:=zpa 11 a h3
 refine⟨h1,h2,h3,h4.symm, ?_,by unfold zgu;omega,fun h=>(zo9 11 a (by omega)).symm⟩
 rw[zhy 10 a h2]
 constructor
 ·intro h;exact zgt 10 a ((zhy 10 a h2).2 h) 12
 ·intro h;rw[←zo9 11 a (by omega)];exact h
theorem zqw {a b:List GStep} (ha:okL2 a=true) (hb:okL2 b=true):okL2 (a++b)=decide (cntN 12 a+cntN 12 b≤400):=by
 obtain⟨_,h1,_⟩:=zg4 ha
 obtain⟨_,h2,_⟩:=zg4 hb
 unfold okL2
 rw[zpQ,zop,h1,h2]
 simp
theorem ok_one {a:List GStep} (ha:okL2 a=true) {x:GStep} (hx:inn x=[a]) {d:Bool} (hs:stepF (zb1 10) x=(d&&zb1 10 a)):okL2 [x]=(decide (1+cntN 12 a≤400)&&d&&decide (nn 12 a≤10)):=by
 obtain⟨h1,h2,h3,h4,h5,h6,h7⟩:=zg4 ha
 unfold okL2
 rw[zpS hx,h4,zb1,List.all_cons,List.all_nil,hs,Bool.and_true]
 have:zb1 10 a=decide (nn 12 a≤10):=by rw[Bool.eq_iff_iff,h5,decide_eq_true_eq]
 rw[this,Bool.and_assoc]
end Go.Proofs.YtgmidllbkjdnnaaGreatDoor.W

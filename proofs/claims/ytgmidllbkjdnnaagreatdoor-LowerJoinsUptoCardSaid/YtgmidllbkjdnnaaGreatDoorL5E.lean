/- The whole table. -/
import Derived.Test.YtgmidllbkjdnnaaGreatDoorL5D3
namespace Go.Proofs.YtgmidllbkjdnnaaGreatDoor.W
open Go.Proofs.YtgmidllbkjdnnaaGreatDoor.Flat
set_option linter.unusedVariables false
set_option linter.unusedSimpArgs false
theorem zaa : ∀ n, TabOk (tab n) (run Tryz.prog own kp X n)
  | 0=>⟨fun _ _ _ h=>(by cases h),fun _ _ h=>(by cases h),fun _ h=>(by cases h),fun _ _ h=>(by cases h),fun _ _ h=>(by cases h),fun _ _ h=>(by cases h),fun _ _ h=>(by cases h),fun _ _ _ _ h=>(by cases h),fun _ _ h=>(by cases h),fun _ _ _ h=>(by cases h),fun _ _ h=>(by cases h),fun _ _ _ h=>(by cases h),fun _ _ _ h=>(by cases h),fun _ _ _ _ h=>(by cases h),fun _ _ _ h=>(by cases h),fun _ _ h=>(by cases h),fun _ _ h=>(by cases h),fun _ _ _ h=>(by cases h),fun _ _ _ h=>(by cases h),fun _ _ _ h=>(by cases h),fun _ _ h=>(by cases h),fun _ _ _ h=>(by cases h),fun _ _ _ h=>(by cases h),fun _ _ _ h=>(by cases h),fun _ _ _ h=>(by cases h),fun _ _ _ h=>(by cases h),fun _ _ _ h=>(by cases h),fun _ _ h=>(by cases h),fun _ _ h=>(by cases h),fun _ _ h=>(by cases h),fun _ _ h=>(by cases h),fun _ _ h=>(by cases h),fun _ _ _ _ h=>(by cases h),fun _ _ h=>(by cases h),fun _ _ _ h=>(by cases h),fun _ _ _ h=>(by cases h),fun _ _ _ h=>(by cases h),fun _ _ _ _ h=>(by cases h),fun _ _ _ h=>(by cases h),fun _ _ _ h=>(by cases h),fun _ _ h=>(by cases h),fun _ _ h=>(by cases h),fun _ _ h=>(by cases h),fun _ _ _ h=>(by cases h),fun _ _ _ h=>(by cases h),fun _ _ _ _ h=>(by cases h),fun _ _ _ h=>(by cases h),fun _ _ h=>(by cases h),fun _ _ h=>(by cases h),fun _ _ h=>(by cases h),fun _ _ h=>(by cases h),fun _ _ _ h=>(by cases h),fun _ _ _ h=>(by cases h),fun _ _ _ h=>(by cases h),fun _ _ _ _ h=>(by cases h),fun _ _ _ h=>(by cases h),fun _ _ h=>(by cases h),fun _ _ _ h=>(by cases h),fun _ _ h=>(by cases h),fun _ _ _ h=>(by cases h),fun _ _ _ h=>(by cases h),fun _ _ _ h=>(by cases h),fun _ _ _ h=>(by cases h),fun _ _ h=>(by cases h),fun _ _ _ h=>(by cases h),fun _ _ _ h=>(by cases h),fun _ _ _ h=>(by cases h),fun _ _ _ h=>(by cases h),fun _ _ _ h=>(by cases h),fun _ _ _ h=>(by cases h),fun _ _ _ h=>(by cases h),fun _ _ _ h=>(by cases h),fun _ _ _ h=>(by cases h),fun _ _ _ h=>(by cases h),fun _ _ _ h=>(by cases h),fun _ _ h=>(by cases h),fun _ h=>(by cases h),fun _ _ _ h=>(by cases h),fun _ _ h=>(by cases h),fun _ _ h=>(by cases h),fun _ _ h=>(by cases h),fun _ _ h=>(by cases h),fun _ _ h=>(by cases h),fun _ _ h=>(by cases h),fun _ _ _ _ h=>(by cases h),fun _ _ _ _ h=>(by cases h),fun _ _ h=>(by cases h),fun _ _ _ h=>(by cases h),fun _ _ _ h=>(by cases h),fun _ _ _ h=>(by cases h),fun _ _ h=>(by cases h),fun _ _ h=>(by cases h),fun _ _ _ h=>(by cases h),fun _ _ _ h=>(by cases h),fun _ _ h=>(by cases h),fun _ _ _ _ h=>(by cases h),fun _ _ h=>(by cases h),fun _ _ h=>(by cases h),fun _ _ h=>(by cases h),fun _ _ _ h=>(by cases h),fun _ _ h=>(by cases h),fun _ _ _ h=>(by cases h),fun _ _ h=>(by cases h),fun _ _ _ h=>(by cases h),fun _ _ h=>(by cases h),fun _ _ _ h=>(by cases h),fun _ _ _ _ h=>(by cases h),fun _ _ _ h=>(by cases h),fun _ _ _ h=>(by cases h),fun _ _ h=>(by cases h),fun _ _ h=>(by cases h),fun _ _ _ h=>(by cases h),fun _ _ h=>(by cases h)⟩
  | n+1=>⟨zbE.ok (zaa n),
    zdz.ok (zaa n),
    za5.ok (zaa n),
    zdk.ok (zaa n),
    zbY.ok (zaa n),
    zdT.ok (zaa n),
    zbh.ok (zaa n),
    zb4.ok (zaa n),
    zd9.ok (zaa n),
    zdM.ok (zaa n),
    zei.ok (zaa n),
    zeO.ok (zaa n),
    zaT.ok (zaa n),
    zb9.ok (zaa n),
    zdn.ok (zaa n),
    zdo.ok (zaa n),
    zed.ok (zaa n),
    zaR.ok (zaa n),
    zbZ.ok (zaa n),
    zdl.ok (zaa n),
    zb0.ok (zaa n),
    zaP.ok (zaa n),
    zcz.ok (zaa n),
    zcT.ok (zaa n),
    zcD.ok (zaa n),
    zb5.ok (zaa n),
    zaz.ok (zaa n),
    zai.ok (zaa n),
    zbB.ok (zaa n),
    zce.ok (zaa n),
    zdB.ok (zaa n),
    zaU.ok (zaa n),
    zeb.ok (zaa n),
    zdN.ok (zaa n),
    za9.ok (zaa n),
    za6.ok (zaa n),
    zd6.ok (zaa n),
    zaG.ok (zaa n),
    zbO.ok (zaa n),
    zd7.ok (zaa n),
    zdc.ok (zaa n),
    zdp.ok (zaa n),
    zb6.ok (zaa n),
    za7.ok (zaa n),
    zbp.ok (zaa n),
    zcK.ok (zaa n),
    zP.ok (zaa n),
    (fun p1 r h=>by
    by_cases hq:decide (p1.length * 16≤140737488355328)=true
    · have h:(if decide (p1.length * 16≤140737488355328)=true then some p1 else none)=some r:=h
      rw[if_pos hq]at h
      rw[←Option.some.inj h]
      have e:(if decide ((texts p1).length * 16≤140737488355328)=true then some (AV.t (T.sl true 1 (texts p1)),([]:List AV))else none)=some (AV.t (T.sl true 1 (texts p1)),[]):=if_pos (by rw[zJ,List.length_map];exact hq)
      exact zgQ e
    · have h:(if decide (p1.length * 16≤140737488355328)=true then some p1 else none)=some r:=h
      rw[if_neg hq]at h;cases h),
    (fun p1 r h=>by
    by_cases hq:decide (p1.length * 8≤140737488355328)=true
    · have h:(if decide (p1.length * 8≤140737488355328)=true then some p1 else none)=some r:=h
      rw[if_pos hq]at h
      rw[←Option.some.inj h]
      have e:(if decide ((zA p1).length * 8≤140737488355328)=true then some (AV.t (T.sl true 1 (zA p1)),([]:List AV))else none)=some (AV.t (T.sl true 1 (zA p1)),[]):=if_pos (by rw[zz,List.length_map];exact hq)
      exact zgQ e
    · have h:(if decide (p1.length * 8≤140737488355328)=true then some p1 else none)=some r:=h
      rw[if_neg hq]at h;cases h),
    zdq.ok (zaa n),
    zeq.ok (zaa n),
    zdU.ok (zaa n),
    zbo.ok (zaa n),
    zdY.ok (zaa n),
    zdV.ok (zaa n),
    zaH.ok (zaa n),
    zdw.ok (zaa n),
    zeB.ok (zaa n),
    zdW.ok (zaa n),
    zaj.ok (zaa n),
    zdr.ok (zaa n),
    zdL.ok (zaa n),
    zeE.ok (zaa n),
    (fun p1 r h=>by
    by_cases hq:decide (p1.length * 24≤140737488355328)=true
    · have h:(if decide (p1.length * 24≤140737488355328)=true then some p1 else none)=some r:=h
      rw[if_pos hq]at h
      rw[←Option.some.inj h]
      have e:(if decide ((zo p1).length * 24≤140737488355328)=true then some (AV.t (T.sl true 1 (zo p1)),([]:List AV))else none)=some (AV.t (T.sl true 1 (zo p1)),[]):=if_pos (by rw[zx,List.length_map];exact hq)
      exact zgQ e
    · have h:(if decide (p1.length * 24≤140737488355328)=true then some p1 else none)=some r:=h
      rw[if_neg hq]at h;cases h),
    zcf.ok (zaa n),
    zct.ok (zaa n),
    slices_Equal_string.ok (zaa n),
    slices_Equal_int.ok (zaa n),
    zdg.ok (zaa n),
    zbU.ok (zaa n),
    zcM.ok (zaa n),
    zer.ok (zaa n),
    zee.ok (zaa n),
    zay.ok (zaa n),
    zaw.ok (zaa n),
    zdZ.ok (zaa n),
    zcX.ok (zaa n),
    zea.ok (zaa n),
    zB.ok (zaa n),
    zch.ok (zaa n),
    zds.ok (zaa n),
    zcN.ok (zaa n),
    zc4.ok (zaa n),
    zbX.ok (zaa n),
    zet.ok (zaa n),
    zbC.ok (zaa n),
    zan.ok (zaa n),
    zbD.ok (zaa n),
    zcO.ok (zaa n),
    slices_Contains_string.ok (zaa n),
    zK.ok (zaa n),
    zdt.ok (zaa n),
    cmp_Compare_int.ok (zaa n),
    strings_Compare.ok (zaa n),
    zdX.ok (zaa n),
    zL.ok (zaa n),
    zdm.ok (zaa n),
    zaC.ok (zaa n),
    zcP.ok (zaa n),
    zR.ok (zaa n),
    zY.ok (zaa n),
    slices_Index_string.ok (zaa n),
    zad.ok (zaa n),
    zdD.ok (zaa n),
    cmp_isNaN_int.ok (zaa n),
    (fun p1 p2 r h=>by rw[←Option.some.inj h];exact zgQ (by kernel_rfl)),
    za2.ok (zaa n),
    (fun p1 p2 r h=>by
    cases p1 with
    | nil=>
      by_cases hq:decide (0≤p2∧p2 * 80≤140737488355328)=true
      · have h:(if decide (0≤p2∧p2 * 80≤140737488355328)=true then some ([]:List zh)else none)=some r:=h
        rw[if_pos hq]at h
        rw[←Option.some.inj h]
        exact zgQ (if_pos hq)
      · have h:(if decide (0≤p2∧p2 * 80≤140737488355328)=true then some ([]:List zh)else none)=some r:=h
        rw[if_neg hq]at h;cases h
    | cons _ _=>cases h),
    zak.ok (zaa n),
    zal.ok (zaa n),
    zbA.ok (zaa n),
    zcx.ok (zaa n),
    zcy.ok (zaa n)⟩
end Go.Proofs.YtgmidllbkjdnnaaGreatDoor.W

/- The whole table. -/
import Derived.Test.YtgmidllbkjdnnaaDoorL6D2
namespace Go.Proofs.YtgmidllbkjdnnaaDoor.W
open Go.Proofs.YtgmidllbkjdnnaaDoor.Flat
set_option linter.unusedVariables false
set_option linter.unusedSimpArgs false
theorem zai : ∀ n, TabOk (tab n) (run Tryd.prog own kp X n)
  | 0=>⟨fun _ _ _ _ h=>(by cases h),fun _ _ h=>(by cases h),fun _ h=>(by cases h),fun _ _ h=>(by cases h),fun _ _ h=>(by cases h),fun _ _ h=>(by cases h),fun _ _ _ _ h=>(by cases h),fun _ _ _ h=>(by cases h),fun _ _ _ h=>(by cases h),fun _ _ h=>(by cases h),fun _ _ h=>(by cases h),fun _ _ _ h=>(by cases h),fun _ _ _ h=>(by cases h),fun _ _ _ h=>(by cases h),fun _ _ _ h=>(by cases h),fun _ _ h=>(by cases h),fun _ _ _ h=>(by cases h),fun _ _ _ h=>(by cases h),fun _ _ _ h=>(by cases h),fun _ _ _ h=>(by cases h),fun _ _ _ h=>(by cases h),fun _ _ h=>(by cases h),fun _ _ _ h=>(by cases h),fun _ _ _ h=>(by cases h),fun _ _ _ h=>(by cases h),fun _ _ _ _ h=>(by cases h),fun _ _ _ h=>(by cases h),fun _ _ _ h=>(by cases h),fun _ _ _ _ h=>(by cases h),fun _ _ _ h=>(by cases h),fun _ _ h=>(by cases h),fun _ _ h=>(by cases h),fun _ _ h=>(by cases h),fun _ _ h=>(by cases h),fun _ _ _ h=>(by cases h),fun _ _ _ h=>(by cases h),fun _ _ _ h=>(by cases h),fun _ _ _ _ h=>(by cases h),fun _ _ _ h=>(by cases h),fun _ _ h=>(by cases h),fun _ _ _ h=>(by cases h),fun _ _ _ h=>(by cases h),fun _ _ _ h=>(by cases h),fun _ _ _ h=>(by cases h),fun _ _ h=>(by cases h),fun _ _ _ h=>(by cases h),fun _ _ _ h=>(by cases h),fun _ _ _ h=>(by cases h),fun _ _ _ h=>(by cases h),fun _ _ _ h=>(by cases h),fun _ _ _ h=>(by cases h),fun _ _ _ h=>(by cases h),fun _ _ _ h=>(by cases h),fun _ _ _ h=>(by cases h),fun _ _ _ h=>(by cases h),fun _ _ _ h=>(by cases h),fun _ _ h=>(by cases h),fun _ h=>(by cases h),fun _ _ _ h=>(by cases h),fun _ _ h=>(by cases h),fun _ _ h=>(by cases h),fun _ _ h=>(by cases h),fun _ _ h=>(by cases h),fun _ _ h=>(by cases h),fun _ _ h=>(by cases h),fun _ _ _ _ h=>(by cases h),fun _ _ _ _ h=>(by cases h),fun _ _ h=>(by cases h),fun _ _ _ h=>(by cases h),fun _ _ _ h=>(by cases h),fun _ _ _ h=>(by cases h),fun _ _ h=>(by cases h),fun _ _ h=>(by cases h),fun _ _ _ h=>(by cases h),fun _ _ _ h=>(by cases h),fun _ _ h=>(by cases h),fun _ _ _ _ h=>(by cases h),fun _ _ h=>(by cases h),fun _ _ h=>(by cases h),fun _ _ h=>(by cases h),fun _ _ _ h=>(by cases h),fun _ _ h=>(by cases h),fun _ _ _ h=>(by cases h),fun _ _ h=>(by cases h),fun _ _ _ h=>(by cases h),fun _ _ h=>(by cases h),fun _ _ _ h=>(by cases h),fun _ _ _ _ h=>(by cases h),fun _ _ _ h=>(by cases h),fun _ _ _ h=>(by cases h),fun _ _ h=>(by cases h),fun _ _ h=>(by cases h),fun _ _ _ h=>(by cases h),fun _ _ h=>(by cases h)⟩
  | n+1=>⟨zbe.ok (zai n),
    zcI.ok (zai n),
    zbJ.ok (zai n),
    zbK.ok (zai n),
    za6.ok (zai n),
    zbt.ok (zai n),
    zbp.ok (zai n),
    zcJ.ok (zai n),
    zdH.ok (zai n),
    zcm.ok (zai n),
    zdb.ok (zai n),
    zaL.ok (zai n),
    zaf.ok (zai n),
    zbo.ok (zai n),
    zck.ok (zai n),
    zcN.ok (zai n),
    zbR.ok (zai n),
    zb1.ok (zai n),
    zdl.ok (zai n),
    zdm.ok (zai n),
    zay.ok (zai n),
    zcK.ok (zai n),
    zaY.ok (zai n),
    zaW.ok (zai n),
    zc5.ok (zai n),
    zcg.ok (zai n),
    zcU.ok (zai n),
    zc6.ok (zai n),
    zbV.ok (zai n),
    zK.ok (zai n),
    (fun p1 r h=>by
    by_cases hq:decide (p1.length * 16≤140737488355328)=true
    · have h:(if decide (p1.length * 16≤140737488355328)=true then some p1 else none)=some r:=h
      rw[if_pos hq]at h
      rw[←Option.some.inj h]
      have e:(if decide ((texts p1).length * 16≤140737488355328)=true then some (AV.t (T.sl true 1 (texts p1)),([]:List AV))else none)=some (AV.t (T.sl true 1 (texts p1)),[]):=if_pos (by rw[zX,List.length_map];exact hq)
      exact zfI e
    · have h:(if decide (p1.length * 16≤140737488355328)=true then some p1 else none)=some r:=h
      rw[if_neg hq]at h;cases h),
    (fun p1 r h=>by
    by_cases hq:decide (p1.length * 8≤140737488355328)=true
    · have h:(if decide (p1.length * 8≤140737488355328)=true then some p1 else none)=some r:=h
      rw[if_pos hq]at h
      rw[←Option.some.inj h]
      have e:(if decide ((zB p1).length * 8≤140737488355328)=true then some (AV.t (T.sl true 1 (zB p1)),([]:List AV))else none)=some (AV.t (T.sl true 1 (zB p1)),[]):=if_pos (by rw[zy,List.length_map];exact hq)
      exact zfI e
    · have h:(if decide (p1.length * 8≤140737488355328)=true then some p1 else none)=some r:=h
      rw[if_neg hq]at h;cases h),
    zcn.ok (zai n),
    zdj.ok (zai n),
    zcY.ok (zai n),
    zca.ok (zai n),
    zdq.ok (zai n),
    zdn.ok (zai n),
    zaD.ok (zai n),
    zcZ.ok (zai n),
    zaa.ok (zai n),
    zco.ok (zai n),
    zcH.ok (zai n),
    zdx.ok (zai n),
    (fun p1 r h=>by
    by_cases hq:decide (p1.length * 24≤140737488355328)=true
    · have h:(if decide (p1.length * 24≤140737488355328)=true then some p1 else none)=some r:=h
      rw[if_pos hq]at h
      rw[←Option.some.inj h]
      have e:(if decide ((zo p1).length * 24≤140737488355328)=true then some (AV.t (T.sl true 1 (zo p1)),([]:List AV))else none)=some (AV.t (T.sl true 1 (zo p1)),[]):=if_pos (by rw[zw,List.length_map];exact hq)
      exact zfI e
    · have h:(if decide (p1.length * 24≤140737488355328)=true then some p1 else none)=some r:=h
      rw[if_neg hq]at h;cases h),
    zby.ok (zai n),
    zbL.ok (zai n),
    slices_Equal_string.ok (zai n),
    slices_Equal_int.ok (zai n),
    zcj.ok (zai n),
    zbk.ok (zai n),
    zbW.ok (zai n),
    zdk.ok (zai n),
    zdc.ok (zai n),
    zax.ok (zai n),
    zat.ok (zai n),
    zc1.ok (zai n),
    zb5.ok (zai n),
    zc9.ok (zai n),
    zz.ok (zai n),
    zbA.ok (zai n),
    zcp.ok (zai n),
    zbX.ok (zai n),
    zcd.ok (zai n),
    zbn.ok (zai n),
    zdo.ok (zai n),
    zbb.ok (zai n),
    zah.ok (zai n),
    zbc.ok (zai n),
    zbY.ok (zai n),
    slices_Contains_string.ok (zai n),
    zH.ok (zai n),
    zcq.ok (zai n),
    cmp_Compare_int.ok (zai n),
    strings_Compare.ok (zai n),
    zc0.ok (zai n),
    zI.ok (zai n),
    zcl.ok (zai n),
    zaz.ok (zai n),
    zbZ.ok (zai n),
    zM.ok (zai n),
    zS.ok (zai n),
    slices_Index_string.ok (zai n),
    zW.ok (zai n),
    zcz.ok (zai n),
    cmp_isNaN_int.ok (zai n),
    (fun p1 p2 r h=>by rw[←Option.some.inj h];exact zfI (by kernel_rfl)),
    zaS.ok (zai n),
    (fun p1 p2 r h=>by
    cases p1 with
    | nil=>
      by_cases hq:decide (0≤p2∧p2 * 80≤140737488355328)=true
      · have h:(if decide (0≤p2∧p2 * 80≤140737488355328)=true then some ([]:List zh)else none)=some r:=h
        rw[if_pos hq]at h
        rw[←Option.some.inj h]
        exact zfI (if_pos hq)
      · have h:(if decide (0≤p2∧p2 * 80≤140737488355328)=true then some ([]:List zh)else none)=some r:=h
        rw[if_neg hq]at h;cases h
    | cons _ _=>cases h),
    zab.ok (zai n),
    zac.ok (zai n),
    zba.ok (zai n),
    zbP.ok (zai n),
    zbQ.ok (zai n)⟩
end Go.Proofs.YtgmidllbkjdnnaaDoor.W

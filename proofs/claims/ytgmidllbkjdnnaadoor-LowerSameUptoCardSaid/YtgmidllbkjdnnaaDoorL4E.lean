/- The whole table. -/
import Derived.Test.YtgmidllbkjdnnaaDoorL4D2
namespace Go.Proofs.YtgmidllbkjdnnaaDoor.W
open Go.Proofs.YtgmidllbkjdnnaaDoor.Flat
set_option linter.unusedVariables false
set_option linter.unusedSimpArgs false
theorem zae : ∀ n, TabOk (tab n) (run Tryd.prog own kp X n)
  | 0=>⟨fun _ _ _ _ h=>(by cases h),fun _ _ h=>(by cases h),fun _ h=>(by cases h),fun _ _ h=>(by cases h),fun _ _ h=>(by cases h),fun _ _ _ h=>(by cases h),fun _ _ _ h=>(by cases h),fun _ _ _ h=>(by cases h),fun _ _ _ _ h=>(by cases h),fun _ _ h=>(by cases h),fun _ _ h=>(by cases h),fun _ _ h=>(by cases h),fun _ _ h=>(by cases h),fun _ _ _ h=>(by cases h),fun _ _ _ h=>(by cases h),fun _ _ _ h=>(by cases h),fun _ _ _ h=>(by cases h),fun _ _ _ h=>(by cases h),fun _ _ _ h=>(by cases h),fun _ _ _ h=>(by cases h),fun _ _ _ h=>(by cases h),fun _ _ _ h=>(by cases h),fun _ _ _ h=>(by cases h),fun _ _ h=>(by cases h),fun _ _ _ h=>(by cases h),fun _ _ h=>(by cases h),fun _ _ _ h=>(by cases h),fun _ _ _ h=>(by cases h),fun _ _ _ h=>(by cases h),fun _ _ _ _ h=>(by cases h),fun _ _ _ h=>(by cases h),fun _ _ _ h=>(by cases h),fun _ _ _ _ h=>(by cases h),fun _ _ _ h=>(by cases h),fun _ _ h=>(by cases h),fun _ _ h=>(by cases h),fun _ _ h=>(by cases h),fun _ _ h=>(by cases h),fun _ _ _ h=>(by cases h),fun _ _ _ h=>(by cases h),fun _ _ _ h=>(by cases h),fun _ _ _ h=>(by cases h),fun _ _ _ _ h=>(by cases h),fun _ _ h=>(by cases h),fun _ _ _ h=>(by cases h),fun _ _ _ h=>(by cases h),fun _ _ _ h=>(by cases h),fun _ _ _ h=>(by cases h),fun _ _ h=>(by cases h),fun _ _ _ h=>(by cases h),fun _ _ _ h=>(by cases h),fun _ _ _ h=>(by cases h),fun _ _ _ h=>(by cases h),fun _ _ _ h=>(by cases h),fun _ _ _ h=>(by cases h),fun _ _ _ h=>(by cases h),fun _ _ _ h=>(by cases h),fun _ _ _ h=>(by cases h),fun _ _ _ h=>(by cases h),fun _ _ _ h=>(by cases h),fun _ _ h=>(by cases h),fun _ h=>(by cases h),fun _ _ _ h=>(by cases h),fun _ _ h=>(by cases h),fun _ _ h=>(by cases h),fun _ _ h=>(by cases h),fun _ _ h=>(by cases h),fun _ _ h=>(by cases h),fun _ _ h=>(by cases h),fun _ _ _ _ h=>(by cases h),fun _ _ _ _ h=>(by cases h),fun _ _ h=>(by cases h),fun _ _ _ h=>(by cases h),fun _ _ _ h=>(by cases h),fun _ _ _ h=>(by cases h),fun _ _ h=>(by cases h),fun _ _ h=>(by cases h),fun _ _ _ h=>(by cases h),fun _ _ _ h=>(by cases h),fun _ _ h=>(by cases h),fun _ _ _ _ h=>(by cases h),fun _ _ h=>(by cases h),fun _ _ h=>(by cases h),fun _ _ h=>(by cases h),fun _ _ _ h=>(by cases h),fun _ _ h=>(by cases h),fun _ _ _ h=>(by cases h),fun _ _ h=>(by cases h),fun _ _ _ h=>(by cases h),fun _ _ h=>(by cases h),fun _ _ _ h=>(by cases h),fun _ _ _ _ h=>(by cases h),fun _ _ _ h=>(by cases h),fun _ _ _ h=>(by cases h),fun _ _ h=>(by cases h),fun _ _ h=>(by cases h),fun _ _ _ h=>(by cases h),fun _ _ h=>(by cases h)⟩
  | n+1=>⟨zbJ.ok (zae n),
    zcU.ok (zae n),
    zbi.ok (zae n),
    zde.ok (zae n),
    zbC.ok (zae n),
    zbf.ok (zae n),
    zdq.ok (zae n),
    zaA.ok (zae n),
    zbo.ok (zae n),
    zdu.ok (zae n),
    zdD.ok (zae n),
    zcL.ok (zae n),
    zdx.ok (zae n),
    zaN.ok (zae n),
    zac.ok (zae n),
    zb9.ok (zae n),
    za2.ok (zae n),
    zb0.ok (zae n),
    zbI.ok (zae n),
    zaO.ok (zae n),
    zaQ.ok (zae n),
    zbD.ok (zae n),
    zcJ.ok (zae n),
    zc8.ok (zae n),
    zaM.ok (zae n),
    zc6.ok (zae n),
    za5.ok (zae n),
    za3.ok (zae n),
    zca.ok (zae n),
    zaJ.ok (zae n),
    zbO.ok (zae n),
    zdr.ok (zae n),
    zco.ok (zae n),
    zO.ok (zae n),
    (fun p1 r h=>by
    by_cases hq:decide (p1.length * 16≤140737488355328)=true
    · have h:(if decide (p1.length * 16≤140737488355328)=true then some p1 else none)=some r:=h
      rw[if_pos hq]at h
      rw[←Option.some.inj h]
      have e:(if decide ((texts p1).length * 16≤140737488355328)=true then some (AV.t (T.sl true 1 (texts p1)),([]:List AV))else none)=some (AV.t (T.sl true 1 (texts p1)),[]):=if_pos (by rw[zF,List.length_map];exact hq)
      exact zf8 e
    · have h:(if decide (p1.length * 16≤140737488355328)=true then some p1 else none)=some r:=h
      rw[if_neg hq]at h;cases h),
    (fun p1 r h=>by
    by_cases hq:decide (p1.length * 8≤140737488355328)=true
    · have h:(if decide (p1.length * 8≤140737488355328)=true then some p1 else none)=some r:=h
      rw[if_pos hq]at h
      rw[←Option.some.inj h]
      have e:(if decide ((zz p1).length * 8≤140737488355328)=true then some (AV.t (T.sl true 1 (zz p1)),([]:List AV))else none)=some (AV.t (T.sl true 1 (zz p1)),[]):=if_pos (by rw[zw,List.length_map];exact hq)
      exact zf8 e
    · have h:(if decide (p1.length * 8≤140737488355328)=true then some p1 else none)=some r:=h
      rw[if_neg hq]at h;cases h),
    zcM.ok (zae n),
    zdH.ok (zae n),
    zdf.ok (zae n),
    zaj.ok (zae n),
    zbg.ok (zae n),
    zdj.ok (zae n),
    zdg.ok (zae n),
    zdh.ok (zae n),
    zaf.ok (zae n),
    zcN.ok (zae n),
    zc5.ok (zae n),
    zc0.ok (zae n),
    (fun p1 r h=>by
    by_cases hq:decide (p1.length * 24≤140737488355328)=true
    · have h:(if decide (p1.length * 24≤140737488355328)=true then some p1 else none)=some r:=h
      rw[if_pos hq]at h
      rw[←Option.some.inj h]
      have e:(if decide ((zq p1).length * 24≤140737488355328)=true then some (AV.t (T.sl true 1 (zq p1)),([]:List AV))else none)=some (AV.t (T.sl true 1 (zq p1)),[]):=if_pos (by rw[zy,List.length_map];exact hq)
      exact zf8 e
    · have h:(if decide (p1.length * 24≤140737488355328)=true then some p1 else none)=some r:=h
      rw[if_neg hq]at h;cases h),
    zbP.ok (zae n),
    zcb.ok (zae n),
    slices_Equal_string.ok (zae n),
    slices_Equal_int.ok (zae n),
    zbc.ok (zae n),
    zbh.ok (zae n),
    zaS.ok (zae n),
    zdI.ok (zae n),
    zdy.ok (zae n),
    zad.ok (zae n),
    zZ.ok (zae n),
    zdk.ok (zae n),
    zcx.ok (zae n),
    zdv.ok (zae n),
    zA.ok (zae n),
    zbR.ok (zae n),
    zcO.ok (zae n),
    zcp.ok (zae n),
    zcB.ok (zae n),
    zbB.ok (zae n),
    zdJ.ok (zae n),
    zbp.ok (zae n),
    zal.ok (zae n),
    zbq.ok (zae n),
    zcq.ok (zae n),
    slices_Contains_string.ok (zae n),
    zI.ok (zae n),
    zcP.ok (zae n),
    cmp_Compare_int.ok (zae n),
    strings_Compare.ok (zae n),
    zdi.ok (zae n),
    zJ.ok (zae n),
    zcK.ok (zae n),
    zav.ok (zae n),
    zcr.ok (zae n),
    zQ.ok (zae n),
    zW.ok (zae n),
    slices_Index_string.ok (zae n),
    zab.ok (zae n),
    zc1.ok (zae n),
    cmp_isNaN_int.ok (zae n),
    (fun p1 p2 r h=>by rw[←Option.some.inj h];exact zf8 (by kernel_rfl)),
    zaY.ok (zae n),
    (fun p1 p2 r h=>by
    cases p1 with
    | nil=>
      by_cases hq:decide (0≤p2∧p2 * 80≤140737488355328)=true
      · have h:(if decide (0≤p2∧p2 * 80≤140737488355328)=true then some ([]:List zh)else none)=some r:=h
        rw[if_pos hq]at h
        rw[←Option.some.inj h]
        exact zf8 (if_pos hq)
      · have h:(if decide (0≤p2∧p2 * 80≤140737488355328)=true then some ([]:List zh)else none)=some r:=h
        rw[if_neg hq]at h;cases h
    | cons _ _=>cases h),
    zah.ok (zae n),
    zai.ok (zae n),
    zbn.ok (zae n),
    zcf.ok (zae n),
    zcg.ok (zae n)⟩
end Go.Proofs.YtgmidllbkjdnnaaDoor.W

/- The whole table. -/
import Derived.Test.YtgmidllbkjdnnaaDoorL2D2
namespace Go.Proofs.YtgmidllbkjdnnaaDoor.W
open Go.Proofs.YtgmidllbkjdnnaaDoor.Flat
set_option linter.unusedVariables false
set_option linter.unusedSimpArgs false
theorem zac : ∀ n, TabOk (tab n) (run Tryd.prog own kp X n)
  | 0=>⟨fun _ _ h=>(by cases h),fun _ _ h=>(by cases h),fun _ h=>(by cases h),fun _ _ h=>(by cases h),fun _ _ h=>(by cases h),fun _ _ h=>(by cases h),fun _ _ _ _ h=>(by cases h),fun _ _ h=>(by cases h),fun _ _ _ h=>(by cases h),fun _ _ h=>(by cases h),fun _ _ _ h=>(by cases h),fun _ _ h=>(by cases h),fun _ _ h=>(by cases h),fun _ _ _ h=>(by cases h),fun _ _ _ _ h=>(by cases h),fun _ _ _ h=>(by cases h),fun _ _ _ h=>(by cases h),fun _ _ h=>(by cases h),fun _ _ _ h=>(by cases h),fun _ _ _ h=>(by cases h),fun _ _ _ h=>(by cases h),fun _ _ _ h=>(by cases h),fun _ _ _ h=>(by cases h),fun _ _ _ h=>(by cases h),fun _ _ h=>(by cases h),fun _ _ _ h=>(by cases h),fun _ _ _ h=>(by cases h),fun _ _ _ h=>(by cases h),fun _ _ _ _ h=>(by cases h),fun _ _ _ h=>(by cases h),fun _ _ _ h=>(by cases h),fun _ _ _ _ h=>(by cases h),fun _ _ _ h=>(by cases h),fun _ _ h=>(by cases h),fun _ _ h=>(by cases h),fun _ _ h=>(by cases h),fun _ _ h=>(by cases h),fun _ _ _ h=>(by cases h),fun _ _ _ h=>(by cases h),fun _ _ _ h=>(by cases h),fun _ _ _ _ h=>(by cases h),fun _ _ _ h=>(by cases h),fun _ _ h=>(by cases h),fun _ _ _ h=>(by cases h),fun _ _ _ h=>(by cases h),fun _ _ _ h=>(by cases h),fun _ _ _ h=>(by cases h),fun _ _ h=>(by cases h),fun _ _ _ h=>(by cases h),fun _ _ _ h=>(by cases h),fun _ _ _ h=>(by cases h),fun _ _ _ h=>(by cases h),fun _ _ _ h=>(by cases h),fun _ _ _ h=>(by cases h),fun _ _ _ h=>(by cases h),fun _ _ _ h=>(by cases h),fun _ _ _ h=>(by cases h),fun _ _ _ h=>(by cases h),fun _ _ _ h=>(by cases h),fun _ _ h=>(by cases h),fun _ h=>(by cases h),fun _ _ _ h=>(by cases h),fun _ _ h=>(by cases h),fun _ _ h=>(by cases h),fun _ _ h=>(by cases h),fun _ _ h=>(by cases h),fun _ _ h=>(by cases h),fun _ _ h=>(by cases h),fun _ _ _ _ h=>(by cases h),fun _ _ _ _ h=>(by cases h),fun _ _ h=>(by cases h),fun _ _ _ h=>(by cases h),fun _ _ _ h=>(by cases h),fun _ _ _ h=>(by cases h),fun _ _ h=>(by cases h),fun _ _ h=>(by cases h),fun _ _ _ h=>(by cases h),fun _ _ _ h=>(by cases h),fun _ _ h=>(by cases h),fun _ _ _ _ h=>(by cases h),fun _ _ h=>(by cases h),fun _ _ h=>(by cases h),fun _ _ h=>(by cases h),fun _ _ _ h=>(by cases h),fun _ _ h=>(by cases h),fun _ _ _ h=>(by cases h),fun _ _ h=>(by cases h),fun _ _ _ h=>(by cases h),fun _ _ h=>(by cases h),fun _ _ _ h=>(by cases h),fun _ _ _ _ h=>(by cases h),fun _ _ _ h=>(by cases h),fun _ _ _ h=>(by cases h),fun _ _ h=>(by cases h),fun _ _ h=>(by cases h),fun _ _ _ h=>(by cases h),fun _ _ h=>(by cases h)⟩
  | n+1=>⟨za8.ok (zac n),
    zc1.ok (zac n),
    zcy.ok (zac n),
    zbV.ok (zac n),
    zcH.ok (zac n),
    zbb.ok (zac n),
    zbA.ok (zac n),
    zdq.ok (zac n),
    zc2.ok (zac n),
    zdx.ok (zac n),
    zdZ.ok (zac n),
    zcB.ok (zac n),
    zdt.ok (zac n),
    zaL.ok (zac n),
    zbF.ok (zac n),
    zbx.ok (zac n),
    zcz.ok (zac n),
    zcj.ok (zac n),
    zaK.ok (zac n),
    zb2.ok (zac n),
    zcd.ok (zac n),
    zdC.ok (zac n),
    zdD.ok (zac n),
    zat.ok (zac n),
    zc3.ok (zac n),
    zaX.ok (zac n),
    zaV.ok (zac n),
    zdm.ok (zac n),
    zct.ok (zac n),
    zdb.ok (zac n),
    zdn.ok (zac n),
    zb7.ok (zac n),
    zL.ok (zac n),
    (fun p1 r h=>by
    by_cases hq:decide (p1.length * 16≤140737488355328)=true
    · have h:(if decide (p1.length * 16≤140737488355328)=true then some p1 else none)=some r:=h
      rw[if_pos hq]at h
      rw[←Option.some.inj h]
      have e:(if decide ((texts p1).length * 16≤140737488355328)=true then some (AV.t (T.sl true 1 (texts p1)),([]:List AV))else none)=some (AV.t (T.sl true 1 (texts p1)),[]):=if_pos (by rw[zV,List.length_map];exact hq)
      exact zfX e
    · have h:(if decide (p1.length * 16≤140737488355328)=true then some p1 else none)=some r:=h
      rw[if_neg hq]at h;cases h),
    (fun p1 r h=>by
    by_cases hq:decide (p1.length * 8≤140737488355328)=true
    · have h:(if decide (p1.length * 8≤140737488355328)=true then some p1 else none)=some r:=h
      rw[if_pos hq]at h
      rw[←Option.some.inj h]
      have e:(if decide ((zz p1).length * 8≤140737488355328)=true then some (AV.t (T.sl true 1 (zz p1)),([]:List AV))else none)=some (AV.t (T.sl true 1 (zz p1)),[]):=if_pos (by rw[zw,List.length_map];exact hq)
      exact zfX e
    · have h:(if decide (p1.length * 8≤140737488355328)=true then some p1 else none)=some r:=h
      rw[if_neg hq]at h;cases h),
    zcC.ok (zac n),
    zdA.ok (zac n),
    zde.ok (zac n),
    zcn.ok (zac n),
    zdJ.ok (zac n),
    zdE.ok (zac n),
    zax.ok (zac n),
    zdf.ok (zac n),
    zZ.ok (zac n),
    zcD.ok (zac n),
    zc0.ok (zac n),
    zdO.ok (zac n),
    (fun p1 r h=>by
    by_cases hq:decide (p1.length * 24≤140737488355328)=true
    · have h:(if decide (p1.length * 24≤140737488355328)=true then some p1 else none)=some r:=h
      rw[if_pos hq]at h
      rw[←Option.some.inj h]
      have e:(if decide ((zo p1).length * 24≤140737488355328)=true then some (AV.t (T.sl true 1 (zo p1)),([]:List AV))else none)=some (AV.t (T.sl true 1 (zo p1)),[]):=if_pos (by rw[zy,List.length_map];exact hq)
      exact zfX e
    · have h:(if decide (p1.length * 24≤140737488355328)=true then some p1 else none)=some r:=h
      rw[if_neg hq]at h;cases h),
    zbK.ok (zac n),
    zbW.ok (zac n),
    slices_Equal_string.ok (zac n),
    slices_Equal_int.ok (zac n),
    zcw.ok (zac n),
    zbt.ok (zac n),
    zb8.ok (zac n),
    zdB.ok (zac n),
    zdu.ok (zac n),
    zas.ok (zac n),
    zan.ok (zac n),
    zdh.ok (zac n),
    zck.ok (zac n),
    zdr.ok (zac n),
    zA.ok (zac n),
    zbM.ok (zac n),
    zcE.ok (zac n),
    zb9.ok (zac n),
    zcq.ok (zac n),
    zbw.ok (zac n),
    zdH.ok (zac n),
    zbk.ok (zac n),
    zae.ok (zac n),
    zbl.ok (zac n),
    zca.ok (zac n),
    slices_Contains_string.ok (zac n),
    zF.ok (zac n),
    zcF.ok (zac n),
    cmp_Compare_int.ok (zac n),
    strings_Compare.ok (zac n),
    zdg.ok (zac n),
    zG.ok (zac n),
    zcA.ok (zac n),
    zau.ok (zac n),
    zcb.ok (zac n),
    zN.ok (zac n),
    zS.ok (zac n),
    slices_Index_string.ok (zac n),
    zU.ok (zac n),
    zcS.ok (zac n),
    cmp_isNaN_int.ok (zac n),
    (fun p1 p2 r h=>by rw[←Option.some.inj h];exact zfX (by kernel_rfl)),
    zaR.ok (zac n),
    (fun p1 p2 r h=>by
    cases p1 with
    | nil=>
      by_cases hq:decide (0≤p2∧p2 * 80≤140737488355328)=true
      · have h:(if decide (0≤p2∧p2 * 80≤140737488355328)=true then some ([]:List zh)else none)=some r:=h
        rw[if_pos hq]at h
        rw[←Option.some.inj h]
        exact zfX (if_pos hq)
      · have h:(if decide (0≤p2∧p2 * 80≤140737488355328)=true then some ([]:List zh)else none)=some r:=h
        rw[if_neg hq]at h;cases h
    | cons _ _=>cases h),
    zaa.ok (zac n),
    zab.ok (zac n),
    zbj.ok (zac n),
    zb0.ok (zac n),
    zb1.ok (zac n)⟩
end Go.Proofs.YtgmidllbkjdnnaaDoor.W

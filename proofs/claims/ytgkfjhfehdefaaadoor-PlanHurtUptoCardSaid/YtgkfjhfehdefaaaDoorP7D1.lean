/- The proofs of it, part 1. -/
import Derived.Test.YtgkfjhfehdefaaaDoorP7D0
namespace Go.Proofs.YtgkfjhfehdefaaaDoor.W
open Go.Proofs.YtgkfjhfehdefaaaDoor.Flat
set_option linter.unusedVariables false
set_option linter.unusedSimpArgs false
variable {t : Tab} {call : FuncId → List AV → List AV → Option (AV × List AV)}
theorem plan_step.ok {n : Nat} {t : Tab} (ht : TabOk t (run Tryd.prog own kp X n)) : ∀ (p1 : GStep) (p2 : Int) r, plan_step t n p1 p2 = some r → run Tryd.prog own kp X (n + 1) 50 [(.t (GStep.t p1)), (.t (.v (.int .i64 p2)))] [] = some ((.t (.v (.bool r))), []) := by
  intro p1 p2 r h
  obtain ⟨a1, a2, a3, ⟨a4, a5, a6, a7, a8⟩, ⟨a9, a10, a11⟩, a12, a13, a14⟩ := p1
  obtain ⟨a15, rfl⟩ : ∃ z_, z_ = p2 := ⟨_, rfl⟩
  rw [plan_step] at h
  rcases h1 : t.plan_Name a1 with _ | a16
  · rw [h1] at h; cases h
  rw [h1] at h
  dsimp only at h
  by_cases h2 : (a16.toList == (ByteArray.mk #[]).toList) = true
  · rw [if_pos h2] at h
    rw [← Option.some.inj h]
    exact run_path Tryd.func50 (ob_c (ht.plan_Name _ _ h1) (ob_b h2 ob)) (by kernel_rfl)
  · rw [if_neg h2] at h
    replace h2 := Bool.eq_false_iff.2 h2
    rcases h3 : t.plan_shapes  with _ | ⟨⟨⟨a17, a18⟩, ⟨a19, a20⟩, ⟨a21, a22⟩, ⟨a23, a24⟩, a25, a26⟩, ⟨⟨a27, a28⟩, ⟨a29, a30⟩, ⟨a31, a32⟩, ⟨a33, a34⟩, a35, a36⟩, ⟨⟨a37, a38⟩, ⟨a39, a40⟩, ⟨a41, a42⟩, ⟨a43, a44⟩, a45, a46⟩, ⟨⟨a47, a48⟩, ⟨a49, a50⟩, ⟨a51, a52⟩, ⟨a53, a54⟩, a55, a56⟩, ⟨⟨a57, a58⟩, ⟨a59, a60⟩, ⟨a61, a62⟩, ⟨a63, a64⟩, a65, a66⟩, ⟨⟨a67, a68⟩, ⟨a69, a70⟩, ⟨a71, a72⟩, ⟨a73, a74⟩, a75, a76⟩, ⟨⟨a77, a78⟩, ⟨a79, a80⟩, ⟨a81, a82⟩, ⟨a83, a84⟩, a85, a86⟩, ⟨⟨a87, a88⟩, ⟨a89, a90⟩, ⟨a91, a92⟩, ⟨a93, a94⟩, a95, a96⟩, ⟨⟨a97, a98⟩, ⟨a99, a100⟩, ⟨a101, a102⟩, ⟨a103, a104⟩, a105, a106⟩, ⟨⟨a107, a108⟩, ⟨a109, a110⟩, ⟨a111, a112⟩, ⟨a113, a114⟩, a115, a116⟩, ⟨⟨a117, a118⟩, ⟨a119, a120⟩, ⟨a121, a122⟩, ⟨a123, a124⟩, a125, a126⟩, ⟨⟨a127, a128⟩, ⟨a129, a130⟩, ⟨a131, a132⟩, ⟨a133, a134⟩, a135, a136⟩, ⟨⟨a137, a138⟩, ⟨a139, a140⟩, ⟨a141, a142⟩, ⟨a143, a144⟩, a145, a146⟩, ⟨⟨a147, a148⟩, ⟨a149, a150⟩, ⟨a151, a152⟩, ⟨a153, a154⟩, a155, a156⟩, ⟨⟨a157, a158⟩, ⟨a159, a160⟩, ⟨a161, a162⟩, ⟨a163, a164⟩, a165, a166⟩, ⟨⟨a167, a168⟩, ⟨a169, a170⟩, ⟨a171, a172⟩, ⟨a173, a174⟩, a175, a176⟩, ⟨⟨a177, a178⟩, ⟨a179, a180⟩, ⟨a181, a182⟩, ⟨a183, a184⟩, a185, a186⟩, ⟨⟨a187, a188⟩, ⟨a189, a190⟩, ⟨a191, a192⟩, ⟨a193, a194⟩, a195, a196⟩, ⟨⟨a197, a198⟩, ⟨a199, a200⟩, ⟨a201, a202⟩, ⟨a203, a204⟩, a205, a206⟩, ⟨⟨a207, a208⟩, ⟨a209, a210⟩, ⟨a211, a212⟩, ⟨a213, a214⟩, a215, a216⟩, ⟨⟨a217, a218⟩, ⟨a219, a220⟩, ⟨a221, a222⟩, ⟨a223, a224⟩, a225, a226⟩, ⟨⟨a227, a228⟩, ⟨a229, a230⟩, ⟨a231, a232⟩, ⟨a233, a234⟩, a235, a236⟩, ⟨⟨a237, a238⟩, ⟨a239, a240⟩, ⟨a241, a242⟩, ⟨a243, a244⟩, a245, a246⟩, ⟨⟨a247, a248⟩, ⟨a249, a250⟩, ⟨a251, a252⟩, ⟨a253, a254⟩, a255, a256⟩, ⟨⟨a257, a258⟩, ⟨a259, a260⟩, ⟨a261, a262⟩, ⟨a263, a264⟩, a265, a266⟩, ⟨⟨a267, a268⟩, ⟨a269, a270⟩, ⟨a271, a272⟩, ⟨a273, a274⟩, a275, a276⟩, ⟨⟨a277, a278⟩, ⟨a279, a280⟩, ⟨a281, a282⟩, ⟨a283, a284⟩, a285, a286⟩, ⟨⟨a287, a288⟩, ⟨a289, a290⟩, ⟨a291, a292⟩, ⟨a293, a294⟩, a295, a296⟩, ⟨⟨a297, a298⟩, ⟨a299, a300⟩, ⟨a301, a302⟩, ⟨a303, a304⟩, a305, a306⟩, ⟨⟨a307, a308⟩, ⟨a309, a310⟩, ⟨a311, a312⟩, ⟨a313, a314⟩, a315, a316⟩, ⟨⟨a317, a318⟩, ⟨a319, a320⟩, ⟨a321, a322⟩, ⟨a323, a324⟩, a325, a326⟩, ⟨⟨a327, a328⟩, ⟨a329, a330⟩, ⟨a331, a332⟩, ⟨a333, a334⟩, a335, a336⟩, ⟨⟨a337, a338⟩, ⟨a339, a340⟩, ⟨a341, a342⟩, ⟨a343, a344⟩, a345, a346⟩, ⟨⟨a347, a348⟩, ⟨a349, a350⟩, ⟨a351, a352⟩, ⟨a353, a354⟩, a355, a356⟩, ⟨⟨a357, a358⟩, ⟨a359, a360⟩, ⟨a361, a362⟩, ⟨a363, a364⟩, a365, a366⟩, ⟨⟨a367, a368⟩, ⟨a369, a370⟩, ⟨a371, a372⟩, ⟨a373, a374⟩, a375, a376⟩, ⟨⟨a377, a378⟩, ⟨a379, a380⟩, ⟨a381, a382⟩, ⟨a383, a384⟩, a385, a386⟩, ⟨⟨a387, a388⟩, ⟨a389, a390⟩, ⟨a391, a392⟩, ⟨a393, a394⟩, a395, a396⟩, ⟨⟨a397, a398⟩, ⟨a399, a400⟩, ⟨a401, a402⟩, ⟨a403, a404⟩, a405, a406⟩, ⟨⟨a407, a408⟩, ⟨a409, a410⟩, ⟨a411, a412⟩, ⟨a413, a414⟩, a415, a416⟩, ⟨⟨a417, a418⟩, ⟨a419, a420⟩, ⟨a421, a422⟩, ⟨a423, a424⟩, a425, a426⟩, ⟨⟨a427, a428⟩, ⟨a429, a430⟩, ⟨a431, a432⟩, ⟨a433, a434⟩, a435, a436⟩, ⟨⟨a437, a438⟩, ⟨a439, a440⟩, ⟨a441, a442⟩, ⟨a443, a444⟩, a445, a446⟩, ⟨⟨a447, a448⟩, ⟨a449, a450⟩, ⟨a451, a452⟩, ⟨a453, a454⟩, a455, a456⟩, ⟨⟨a457, a458⟩, ⟨a459, a460⟩, ⟨a461, a462⟩, ⟨a463, a464⟩, a465, a466⟩, ⟨⟨a467, a468⟩, ⟨a469, a470⟩, ⟨a471, a472⟩, ⟨a473, a474⟩, a475, a476⟩, ⟨⟨a477, a478⟩, ⟨a479, a480⟩, ⟨a481, a482⟩, ⟨a483, a484⟩, a485, a486⟩, ⟨⟨a487, a488⟩, ⟨a489, a490⟩, ⟨a491, a492⟩, ⟨a493, a494⟩, a495, a496⟩, ⟨⟨a497, a498⟩, ⟨a499, a500⟩, ⟨a501, a502⟩, ⟨a503, a504⟩, a505, a506⟩, ⟨⟨a507, a508⟩, ⟨a509, a510⟩, ⟨a511, a512⟩, ⟨a513, a514⟩, a515, a516⟩, ⟨⟨a517, a518⟩, ⟨a519, a520⟩, ⟨a521, a522⟩, ⟨a523, a524⟩, a525, a526⟩, ⟨⟨a527, a528⟩, ⟨a529, a530⟩, ⟨a531, a532⟩, ⟨a533, a534⟩, a535, a536⟩⟩
    · rw [h3] at h; cases h
    rw [h3] at h
    dsimp only at h
    by_cases h4 : (decide (0 ≤ (a1 : Int) ∧ (a1 : Int) < ((52 : Nat) : Int))) = true
    case neg => rw [if_neg h4] at h; cases h
    rw [if_pos h4] at h
    rcases h5 : ([(Gshape.mk (GT87.mk a17 a18) (GT87.mk a19 a20) (GT87.mk a21 a22) (GT87.mk a23 a24) a25 a26), (Gshape.mk (GT87.mk a27 a28) (GT87.mk a29 a30) (GT87.mk a31 a32) (GT87.mk a33 a34) a35 a36), (Gshape.mk (GT87.mk a37 a38) (GT87.mk a39 a40) (GT87.mk a41 a42) (GT87.mk a43 a44) a45 a46), (Gshape.mk (GT87.mk a47 a48) (GT87.mk a49 a50) (GT87.mk a51 a52) (GT87.mk a53 a54) a55 a56), (Gshape.mk (GT87.mk a57 a58) (GT87.mk a59 a60) (GT87.mk a61 a62) (GT87.mk a63 a64) a65 a66), (Gshape.mk (GT87.mk a67 a68) (GT87.mk a69 a70) (GT87.mk a71 a72) (GT87.mk a73 a74) a75 a76), (Gshape.mk (GT87.mk a77 a78) (GT87.mk a79 a80) (GT87.mk a81 a82) (GT87.mk a83 a84) a85 a86), (Gshape.mk (GT87.mk a87 a88) (GT87.mk a89 a90) (GT87.mk a91 a92) (GT87.mk a93 a94) a95 a96), (Gshape.mk (GT87.mk a97 a98) (GT87.mk a99 a100) (GT87.mk a101 a102) (GT87.mk a103 a104) a105 a106), (Gshape.mk (GT87.mk a107 a108) (GT87.mk a109 a110) (GT87.mk a111 a112) (GT87.mk a113 a114) a115 a116), (Gshape.mk (GT87.mk a117 a118) (GT87.mk a119 a120) (GT87.mk a121 a122) (GT87.mk a123 a124) a125 a126), (Gshape.mk (GT87.mk a127 a128) (GT87.mk a129 a130) (GT87.mk a131 a132) (GT87.mk a133 a134) a135 a136), (Gshape.mk (GT87.mk a137 a138) (GT87.mk a139 a140) (GT87.mk a141 a142) (GT87.mk a143 a144) a145 a146), (Gshape.mk (GT87.mk a147 a148) (GT87.mk a149 a150) (GT87.mk a151 a152) (GT87.mk a153 a154) a155 a156), (Gshape.mk (GT87.mk a157 a158) (GT87.mk a159 a160) (GT87.mk a161 a162) (GT87.mk a163 a164) a165 a166), (Gshape.mk (GT87.mk a167 a168) (GT87.mk a169 a170) (GT87.mk a171 a172) (GT87.mk a173 a174) a175 a176), (Gshape.mk (GT87.mk a177 a178) (GT87.mk a179 a180) (GT87.mk a181 a182) (GT87.mk a183 a184) a185 a186), (Gshape.mk (GT87.mk a187 a188) (GT87.mk a189 a190) (GT87.mk a191 a192) (GT87.mk a193 a194) a195 a196), (Gshape.mk (GT87.mk a197 a198) (GT87.mk a199 a200) (GT87.mk a201 a202) (GT87.mk a203 a204) a205 a206), (Gshape.mk (GT87.mk a207 a208) (GT87.mk a209 a210) (GT87.mk a211 a212) (GT87.mk a213 a214) a215 a216), (Gshape.mk (GT87.mk a217 a218) (GT87.mk a219 a220) (GT87.mk a221 a222) (GT87.mk a223 a224) a225 a226), (Gshape.mk (GT87.mk a227 a228) (GT87.mk a229 a230) (GT87.mk a231 a232) (GT87.mk a233 a234) a235 a236), (Gshape.mk (GT87.mk a237 a238) (GT87.mk a239 a240) (GT87.mk a241 a242) (GT87.mk a243 a244) a245 a246), (Gshape.mk (GT87.mk a247 a248) (GT87.mk a249 a250) (GT87.mk a251 a252) (GT87.mk a253 a254) a255 a256), (Gshape.mk (GT87.mk a257 a258) (GT87.mk a259 a260) (GT87.mk a261 a262) (GT87.mk a263 a264) a265 a266), (Gshape.mk (GT87.mk a267 a268) (GT87.mk a269 a270) (GT87.mk a271 a272) (GT87.mk a273 a274) a275 a276), (Gshape.mk (GT87.mk a277 a278) (GT87.mk a279 a280) (GT87.mk a281 a282) (GT87.mk a283 a284) a285 a286), (Gshape.mk (GT87.mk a287 a288) (GT87.mk a289 a290) (GT87.mk a291 a292) (GT87.mk a293 a294) a295 a296), (Gshape.mk (GT87.mk a297 a298) (GT87.mk a299 a300) (GT87.mk a301 a302) (GT87.mk a303 a304) a305 a306), (Gshape.mk (GT87.mk a307 a308) (GT87.mk a309 a310) (GT87.mk a311 a312) (GT87.mk a313 a314) a315 a316), (Gshape.mk (GT87.mk a317 a318) (GT87.mk a319 a320) (GT87.mk a321 a322) (GT87.mk a323 a324) a325 a326), (Gshape.mk (GT87.mk a327 a328) (GT87.mk a329 a330) (GT87.mk a331 a332) (GT87.mk a333 a334) a335 a336), (Gshape.mk (GT87.mk a337 a338) (GT87.mk a339 a340) (GT87.mk a341 a342) (GT87.mk a343 a344) a345 a346), (Gshape.mk (GT87.mk a347 a348) (GT87.mk a349 a350) (GT87.mk a351 a352) (GT87.mk a353 a354) a355 a356), (Gshape.mk (GT87.mk a357 a358) (GT87.mk a359 a360) (GT87.mk a361 a362) (GT87.mk a363 a364) a365 a366), (Gshape.mk (GT87.mk a367 a368) (GT87.mk a369 a370) (GT87.mk a371 a372) (GT87.mk a373 a374) a375 a376), (Gshape.mk (GT87.mk a377 a378) (GT87.mk a379 a380) (GT87.mk a381 a382) (GT87.mk a383 a384) a385 a386), (Gshape.mk (GT87.mk a387 a388) (GT87.mk a389 a390) (GT87.mk a391 a392) (GT87.mk a393 a394) a395 a396), (Gshape.mk (GT87.mk a397 a398) (GT87.mk a399 a400) (GT87.mk a401 a402) (GT87.mk a403 a404) a405 a406), (Gshape.mk (GT87.mk a407 a408) (GT87.mk a409 a410) (GT87.mk a411 a412) (GT87.mk a413 a414) a415 a416), (Gshape.mk (GT87.mk a417 a418) (GT87.mk a419 a420) (GT87.mk a421 a422) (GT87.mk a423 a424) a425 a426), (Gshape.mk (GT87.mk a427 a428) (GT87.mk a429 a430) (GT87.mk a431 a432) (GT87.mk a433 a434) a435 a436), (Gshape.mk (GT87.mk a437 a438) (GT87.mk a439 a440) (GT87.mk a441 a442) (GT87.mk a443 a444) a445 a446), (Gshape.mk (GT87.mk a447 a448) (GT87.mk a449 a450) (GT87.mk a451 a452) (GT87.mk a453 a454) a455 a456), (Gshape.mk (GT87.mk a457 a458) (GT87.mk a459 a460) (GT87.mk a461 a462) (GT87.mk a463 a464) a465 a466), (Gshape.mk (GT87.mk a467 a468) (GT87.mk a469 a470) (GT87.mk a471 a472) (GT87.mk a473 a474) a475 a476), (Gshape.mk (GT87.mk a477 a478) (GT87.mk a479 a480) (GT87.mk a481 a482) (GT87.mk a483 a484) a485 a486), (Gshape.mk (GT87.mk a487 a488) (GT87.mk a489 a490) (GT87.mk a491 a492) (GT87.mk a493 a494) a495 a496), (Gshape.mk (GT87.mk a497 a498) (GT87.mk a499 a500) (GT87.mk a501 a502) (GT87.mk a503 a504) a505 a506), (Gshape.mk (GT87.mk a507 a508) (GT87.mk a509 a510) (GT87.mk a511 a512) (GT87.mk a513 a514) a515 a516), (Gshape.mk (GT87.mk a517 a518) (GT87.mk a519 a520) (GT87.mk a521 a522) (GT87.mk a523 a524) a525 a526), (Gshape.mk (GT87.mk a527 a528) (GT87.mk a529 a530) (GT87.mk a531 a532) (GT87.mk a533 a534) a535 a536)] : List Gshape)[(a1 : Int).toNat]? with _ | ⟨⟨a537, a538⟩, ⟨a539, a540⟩, ⟨a541, a542⟩, ⟨a543, a544⟩, a545, a546⟩
    · rw [h5] at h; cases h
    rw [h5] at h
    dsimp only at h
    rcases h6 : t.plan_in (a2.length : Int) (GT87.mk a537 a538) with _ | a547
    · rw [h6] at h; cases h
    rw [h6] at h
    dsimp only at h
    by_cases h7 : a547 = true
    · rw [if_pos h7] at h
      rcases h8 : t.plan_in (a3.length : Int) (GT87.mk a539 a540) with _ | a548
      · rw [h8] at h; cases h
      rw [h8] at h
      dsimp only at h
      by_cases h9 : a548 = true
      · rw [if_pos h9] at h
        rcases h10 : t.plan_in (a12.length : Int) (GT87.mk a541 a542) with _ | a549
        · rw [h10] at h; cases h
        rw [h10] at h
        dsimp only at h
        by_cases h11 : a549 = true
        · rw [if_pos h11] at h
          rcases h12 : t.plan_in (a13.length : Int) (GT87.mk a543 a544) with _ | a550
          · rw [h12] at h; cases h
          rw [h12] at h
          dsimp only at h
          by_cases h13 : a550 = true
          · rw [if_pos h13] at h
            rcases h14 : plan_step_j1 t n  a15 (decide ((a14.length : Int) > 50)) a1 a2 a3 a4 a5 a6 a7 a8 a9 a10 a11 a12 a13 a14 a537 a538 a539 a540 a541 a542 a543 a544 a545 a546 with _ | q_
            · rw [h14] at h; cases h
            rw [h14] at h
            rcases q_ with a551 | ⟨a552, a553, a554, a555, a556, a557, a558, a559, a560, a561, a562, a563, a564, a565, a566⟩
            · dsimp only at h
              rw [← Option.some.inj h]
              exact run_path Tryd.func50 (ob_c (ht.plan_Name _ _ h1) (ob_b h2 (ob_c (ht.plan_shapes _ h3) (ob_n h4 (ob_t (look_ts Gshape.ts_map h5) (ob_v (len_ts texts_map (l := a2)) (ob_c (ht.plan_in _ _ _ h6) (ob_b (congrArg (!·) h7) (ob_b (congrArg (!·) h7) (ob_b (congrArg (!·) h7) (ob_v (len_ts ints_i64_map (l := a3)) (ob_b (congrArg (!·) h7) (ob_b (congrArg (!·) h7) (ob_b (congrArg (!·) h7) (ob_c (ht.plan_in _ _ _ h8) (ob_b (congrArg (!·) h7) (ob_b (congrArg (!·) h7) (ob_b (congrArg (!·) h9) (ob_b (congrArg (!·) h9) (ob_b (congrArg (!·) h9) (ob_v (len_ts rows_GStep_ts_map (l := a12)) (ob_b (congrArg (!·) h9) (ob_b (congrArg (!·) h9) (ob_b (congrArg (!·) h9) (ob_c (ht.plan_in _ _ _ h10) (ob_b (congrArg (!·) h9) (ob_b (congrArg (!·) h9) (ob_b (congrArg (!·) h11) (ob_b (congrArg (!·) h11) (ob_b (congrArg (!·) h11) (ob_v (len_ts GBy.ts_map (l := a13)) (ob_b (congrArg (!·) h11) (ob_b (congrArg (!·) h11) (ob_b (congrArg (!·) h11) (ob_c (ht.plan_in _ _ _ h12) (ob_b (congrArg (!·) h11) (ob_b (congrArg (!·) h11) (ob_b (congrArg (!·) h13) (ob_b (congrArg (!·) h13) (ob_b (congrArg (!·) h13) (ob_v (len_ts texts_map (l := a14)) (ob_b (congrArg (!·) h13) (ob_b (congrArg (!·) h13) (ob_j (plan_step_j1.ok ht n _ _ _ _ _ _ _ _ _ _ _ _ _ _ _ _ _ _ _ _ _ _ _ _ _ _ _ h14) ob)))))))))))))))))))))))))))))))))))))))))))) (by kernel_rfl)
            · dsimp only at h
              obtain ⟨a567, rfl⟩ : ∃ z_, z_ = r := ⟨_, rfl⟩
              have h15 := h
              exact run_path Tryd.func50 (ob_c (ht.plan_Name _ _ h1) (ob_b h2 (ob_c (ht.plan_shapes _ h3) (ob_n h4 (ob_t (look_ts Gshape.ts_map h5) (ob_v (len_ts texts_map (l := a2)) (ob_c (ht.plan_in _ _ _ h6) (ob_b (congrArg (!·) h7) (ob_b (congrArg (!·) h7) (ob_b (congrArg (!·) h7) (ob_v (len_ts ints_i64_map (l := a3)) (ob_b (congrArg (!·) h7) (ob_b (congrArg (!·) h7) (ob_b (congrArg (!·) h7) (ob_c (ht.plan_in _ _ _ h8) (ob_b (congrArg (!·) h7) (ob_b (congrArg (!·) h7) (ob_b (congrArg (!·) h9) (ob_b (congrArg (!·) h9) (ob_b (congrArg (!·) h9) (ob_v (len_ts rows_GStep_ts_map (l := a12)) (ob_b (congrArg (!·) h9) (ob_b (congrArg (!·) h9) (ob_b (congrArg (!·) h9) (ob_c (ht.plan_in _ _ _ h10) (ob_b (congrArg (!·) h9) (ob_b (congrArg (!·) h9) (ob_b (congrArg (!·) h11) (ob_b (congrArg (!·) h11) (ob_b (congrArg (!·) h11) (ob_v (len_ts GBy.ts_map (l := a13)) (ob_b (congrArg (!·) h11) (ob_b (congrArg (!·) h11) (ob_b (congrArg (!·) h11) (ob_c (ht.plan_in _ _ _ h12) (ob_b (congrArg (!·) h11) (ob_b (congrArg (!·) h11) (ob_b (congrArg (!·) h13) (ob_b (congrArg (!·) h13) (ob_b (congrArg (!·) h13) (ob_v (len_ts texts_map (l := a14)) (ob_b (congrArg (!·) h13) (ob_b (congrArg (!·) h13) (ob_j (plan_step_j1.ok ht n _ _ _ _ _ _ _ _ _ _ _ _ _ _ _ _ _ _ _ _ _ _ _ _ _ _ _ h14) (ob_j (plan_step_j5.ok ht n _ _ _ _ _ _ _ _ _ _ _ _ _ _ _ _ h15) ob))))))))))))))))))))))))))))))))))))))))))))) (by kernel_rfl)
          · rw [if_neg h13] at h
            replace h13 := Bool.eq_false_iff.2 h13
            rcases h16 : plan_step_j1 t n  a15 true a1 a2 a3 a4 a5 a6 a7 a8 a9 a10 a11 a12 a13 a14 a537 a538 a539 a540 a541 a542 a543 a544 a545 a546 with _ | q_
            · rw [h16] at h; cases h
            rw [h16] at h
            rcases q_ with a568 | ⟨a569, a570, a571, a572, a573, a574, a575, a576, a577, a578, a579, a580, a581, a582, a583⟩
            · dsimp only at h
              rw [← Option.some.inj h]
              exact run_path Tryd.func50 (ob_c (ht.plan_Name _ _ h1) (ob_b h2 (ob_c (ht.plan_shapes _ h3) (ob_n h4 (ob_t (look_ts Gshape.ts_map h5) (ob_v (len_ts texts_map (l := a2)) (ob_c (ht.plan_in _ _ _ h6) (ob_b (congrArg (!·) h7) (ob_b (congrArg (!·) h7) (ob_b (congrArg (!·) h7) (ob_v (len_ts ints_i64_map (l := a3)) (ob_b (congrArg (!·) h7) (ob_b (congrArg (!·) h7) (ob_b (congrArg (!·) h7) (ob_c (ht.plan_in _ _ _ h8) (ob_b (congrArg (!·) h7) (ob_b (congrArg (!·) h7) (ob_b (congrArg (!·) h9) (ob_b (congrArg (!·) h9) (ob_b (congrArg (!·) h9) (ob_v (len_ts rows_GStep_ts_map (l := a12)) (ob_b (congrArg (!·) h9) (ob_b (congrArg (!·) h9) (ob_b (congrArg (!·) h9) (ob_c (ht.plan_in _ _ _ h10) (ob_b (congrArg (!·) h9) (ob_b (congrArg (!·) h9) (ob_b (congrArg (!·) h11) (ob_b (congrArg (!·) h11) (ob_b (congrArg (!·) h11) (ob_v (len_ts GBy.ts_map (l := a13)) (ob_b (congrArg (!·) h11) (ob_b (congrArg (!·) h11) (ob_b (congrArg (!·) h11) (ob_c (ht.plan_in _ _ _ h12) (ob_b (congrArg (!·) h11) (ob_b (congrArg (!·) h11) (ob_b (congrArg (!·) h13) (ob_b (congrArg (!·) h13) (ob_b (congrArg (!·) h13) (ob_b (congrArg (!·) h13) (ob_b (congrArg (!·) h13) (ob_j (plan_step_j1.ok ht n _ _ _ _ _ _ _ _ _ _ _ _ _ _ _ _ _ _ _ _ _ _ _ _ _ _ _ h16) ob))))))))))))))))))))))))))))))))))))))))))) (by kernel_rfl)
            · dsimp only at h
              obtain ⟨a584, rfl⟩ : ∃ z_, z_ = r := ⟨_, rfl⟩
              have h17 := h
              exact run_path Tryd.func50 (ob_c (ht.plan_Name _ _ h1) (ob_b h2 (ob_c (ht.plan_shapes _ h3) (ob_n h4 (ob_t (look_ts Gshape.ts_map h5) (ob_v (len_ts texts_map (l := a2)) (ob_c (ht.plan_in _ _ _ h6) (ob_b (congrArg (!·) h7) (ob_b (congrArg (!·) h7) (ob_b (congrArg (!·) h7) (ob_v (len_ts ints_i64_map (l := a3)) (ob_b (congrArg (!·) h7) (ob_b (congrArg (!·) h7) (ob_b (congrArg (!·) h7) (ob_c (ht.plan_in _ _ _ h8) (ob_b (congrArg (!·) h7) (ob_b (congrArg (!·) h7) (ob_b (congrArg (!·) h9) (ob_b (congrArg (!·) h9) (ob_b (congrArg (!·) h9) (ob_v (len_ts rows_GStep_ts_map (l := a12)) (ob_b (congrArg (!·) h9) (ob_b (congrArg (!·) h9) (ob_b (congrArg (!·) h9) (ob_c (ht.plan_in _ _ _ h10) (ob_b (congrArg (!·) h9) (ob_b (congrArg (!·) h9) (ob_b (congrArg (!·) h11) (ob_b (congrArg (!·) h11) (ob_b (congrArg (!·) h11) (ob_v (len_ts GBy.ts_map (l := a13)) (ob_b (congrArg (!·) h11) (ob_b (congrArg (!·) h11) (ob_b (congrArg (!·) h11) (ob_c (ht.plan_in _ _ _ h12) (ob_b (congrArg (!·) h11) (ob_b (congrArg (!·) h11) (ob_b (congrArg (!·) h13) (ob_b (congrArg (!·) h13) (ob_b (congrArg (!·) h13) (ob_b (congrArg (!·) h13) (ob_b (congrArg (!·) h13) (ob_j (plan_step_j1.ok ht n _ _ _ _ _ _ _ _ _ _ _ _ _ _ _ _ _ _ _ _ _ _ _ _ _ _ _ h16) (ob_j (plan_step_j5.ok ht n _ _ _ _ _ _ _ _ _ _ _ _ _ _ _ _ h17) ob)))))))))))))))))))))))))))))))))))))))))))) (by kernel_rfl)
        · rw [if_neg h11] at h
          replace h11 := Bool.eq_false_iff.2 h11
          rcases h18 : plan_step_j1 t n  a15 true a1 a2 a3 a4 a5 a6 a7 a8 a9 a10 a11 a12 a13 a14 a537 a538 a539 a540 a541 a542 a543 a544 a545 a546 with _ | q_
          · rw [h18] at h; cases h
          rw [h18] at h
          rcases q_ with a585 | ⟨a586, a587, a588, a589, a590, a591, a592, a593, a594, a595, a596, a597, a598, a599, a600⟩
          · dsimp only at h
            rw [← Option.some.inj h]
            exact run_path Tryd.func50 (ob_c (ht.plan_Name _ _ h1) (ob_b h2 (ob_c (ht.plan_shapes _ h3) (ob_n h4 (ob_t (look_ts Gshape.ts_map h5) (ob_v (len_ts texts_map (l := a2)) (ob_c (ht.plan_in _ _ _ h6) (ob_b (congrArg (!·) h7) (ob_b (congrArg (!·) h7) (ob_b (congrArg (!·) h7) (ob_v (len_ts ints_i64_map (l := a3)) (ob_b (congrArg (!·) h7) (ob_b (congrArg (!·) h7) (ob_b (congrArg (!·) h7) (ob_c (ht.plan_in _ _ _ h8) (ob_b (congrArg (!·) h7) (ob_b (congrArg (!·) h7) (ob_b (congrArg (!·) h9) (ob_b (congrArg (!·) h9) (ob_b (congrArg (!·) h9) (ob_v (len_ts rows_GStep_ts_map (l := a12)) (ob_b (congrArg (!·) h9) (ob_b (congrArg (!·) h9) (ob_b (congrArg (!·) h9) (ob_c (ht.plan_in _ _ _ h10) (ob_b (congrArg (!·) h9) (ob_b (congrArg (!·) h9) (ob_b (congrArg (!·) h11) (ob_b (congrArg (!·) h11) (ob_b (congrArg (!·) h11) (ob_b (congrArg (!·) h11) (ob_b (congrArg (!·) h11) (ob_b (congrArg (!·) h11) (ob_b (congrArg (!·) h11) (ob_b (congrArg (!·) h11) (ob_b (rfl : true = true) (ob_b (rfl : true = true) (ob_b (rfl : true = true) (ob_b (rfl : true = true) (ob_b (rfl : true = true) (ob_j (plan_step_j1.ok ht n _ _ _ _ _ _ _ _ _ _ _ _ _ _ _ _ _ _ _ _ _ _ _ _ _ _ _ h18) ob))))))))))))))))))))))))))))))))))))))))) (by kernel_rfl)
          · dsimp only at h
            obtain ⟨a601, rfl⟩ : ∃ z_, z_ = r := ⟨_, rfl⟩
            have h19 := h
            exact run_path Tryd.func50 (ob_c (ht.plan_Name _ _ h1) (ob_b h2 (ob_c (ht.plan_shapes _ h3) (ob_n h4 (ob_t (look_ts Gshape.ts_map h5) (ob_v (len_ts texts_map (l := a2)) (ob_c (ht.plan_in _ _ _ h6) (ob_b (congrArg (!·) h7) (ob_b (congrArg (!·) h7) (ob_b (congrArg (!·) h7) (ob_v (len_ts ints_i64_map (l := a3)) (ob_b (congrArg (!·) h7) (ob_b (congrArg (!·) h7) (ob_b (congrArg (!·) h7) (ob_c (ht.plan_in _ _ _ h8) (ob_b (congrArg (!·) h7) (ob_b (congrArg (!·) h7) (ob_b (congrArg (!·) h9) (ob_b (congrArg (!·) h9) (ob_b (congrArg (!·) h9) (ob_v (len_ts rows_GStep_ts_map (l := a12)) (ob_b (congrArg (!·) h9) (ob_b (congrArg (!·) h9) (ob_b (congrArg (!·) h9) (ob_c (ht.plan_in _ _ _ h10) (ob_b (congrArg (!·) h9) (ob_b (congrArg (!·) h9) (ob_b (congrArg (!·) h11) (ob_b (congrArg (!·) h11) (ob_b (congrArg (!·) h11) (ob_b (congrArg (!·) h11) (ob_b (congrArg (!·) h11) (ob_b (congrArg (!·) h11) (ob_b (congrArg (!·) h11) (ob_b (congrArg (!·) h11) (ob_b (rfl : true = true) (ob_b (rfl : true = true) (ob_b (rfl : true = true) (ob_b (rfl : true = true) (ob_b (rfl : true = true) (ob_j (plan_step_j1.ok ht n _ _ _ _ _ _ _ _ _ _ _ _ _ _ _ _ _ _ _ _ _ _ _ _ _ _ _ h18) (ob_j (plan_step_j5.ok ht n _ _ _ _ _ _ _ _ _ _ _ _ _ _ _ _ h19) ob)))))))))))))))))))))))))))))))))))))))))) (by kernel_rfl)
      · rw [if_neg h9] at h
        replace h9 := Bool.eq_false_iff.2 h9
        rcases h20 : plan_step_j1 t n  a15 true a1 a2 a3 a4 a5 a6 a7 a8 a9 a10 a11 a12 a13 a14 a537 a538 a539 a540 a541 a542 a543 a544 a545 a546 with _ | q_
        · rw [h20] at h; cases h
        rw [h20] at h
        rcases q_ with a602 | ⟨a603, a604, a605, a606, a607, a608, a609, a610, a611, a612, a613, a614, a615, a616, a617⟩
        · dsimp only at h
          rw [← Option.some.inj h]
          exact run_path Tryd.func50 (ob_c (ht.plan_Name _ _ h1) (ob_b h2 (ob_c (ht.plan_shapes _ h3) (ob_n h4 (ob_t (look_ts Gshape.ts_map h5) (ob_v (len_ts texts_map (l := a2)) (ob_c (ht.plan_in _ _ _ h6) (ob_b (congrArg (!·) h7) (ob_b (congrArg (!·) h7) (ob_b (congrArg (!·) h7) (ob_v (len_ts ints_i64_map (l := a3)) (ob_b (congrArg (!·) h7) (ob_b (congrArg (!·) h7) (ob_b (congrArg (!·) h7) (ob_c (ht.plan_in _ _ _ h8) (ob_b (congrArg (!·) h7) (ob_b (congrArg (!·) h7) (ob_b (congrArg (!·) h9) (ob_b (congrArg (!·) h9) (ob_b (congrArg (!·) h9) (ob_b (congrArg (!·) h9) (ob_b (congrArg (!·) h9) (ob_b (congrArg (!·) h9) (ob_b (congrArg (!·) h9) (ob_b (congrArg (!·) h9) (ob_b (rfl : true = true) (ob_b (rfl : true = true) (ob_b (rfl : true = true) (ob_b (rfl : true = true) (ob_b (rfl : true = true) (ob_b (rfl : true = true) (ob_b (rfl : true = true) (ob_b (rfl : true = true) (ob_b (rfl : true = true) (ob_b (rfl : true = true) (ob_b (rfl : true = true) (ob_b (rfl : true = true) (ob_b (rfl : true = true) (ob_j (plan_step_j1.ok ht n _ _ _ _ _ _ _ _ _ _ _ _ _ _ _ _ _ _ _ _ _ _ _ _ _ _ _ h20) ob))))))))))))))))))))))))))))))))))))))) (by kernel_rfl)
        · dsimp only at h
          obtain ⟨a618, rfl⟩ : ∃ z_, z_ = r := ⟨_, rfl⟩
          have h21 := h
          exact run_path Tryd.func50 (ob_c (ht.plan_Name _ _ h1) (ob_b h2 (ob_c (ht.plan_shapes _ h3) (ob_n h4 (ob_t (look_ts Gshape.ts_map h5) (ob_v (len_ts texts_map (l := a2)) (ob_c (ht.plan_in _ _ _ h6) (ob_b (congrArg (!·) h7) (ob_b (congrArg (!·) h7) (ob_b (congrArg (!·) h7) (ob_v (len_ts ints_i64_map (l := a3)) (ob_b (congrArg (!·) h7) (ob_b (congrArg (!·) h7) (ob_b (congrArg (!·) h7) (ob_c (ht.plan_in _ _ _ h8) (ob_b (congrArg (!·) h7) (ob_b (congrArg (!·) h7) (ob_b (congrArg (!·) h9) (ob_b (congrArg (!·) h9) (ob_b (congrArg (!·) h9) (ob_b (congrArg (!·) h9) (ob_b (congrArg (!·) h9) (ob_b (congrArg (!·) h9) (ob_b (congrArg (!·) h9) (ob_b (congrArg (!·) h9) (ob_b (rfl : true = true) (ob_b (rfl : true = true) (ob_b (rfl : true = true) (ob_b (rfl : true = true) (ob_b (rfl : true = true) (ob_b (rfl : true = true) (ob_b (rfl : true = true) (ob_b (rfl : true = true) (ob_b (rfl : true = true) (ob_b (rfl : true = true) (ob_b (rfl : true = true) (ob_b (rfl : true = true) (ob_b (rfl : true = true) (ob_j (plan_step_j1.ok ht n _ _ _ _ _ _ _ _ _ _ _ _ _ _ _ _ _ _ _ _ _ _ _ _ _ _ _ h20) (ob_j (plan_step_j5.ok ht n _ _ _ _ _ _ _ _ _ _ _ _ _ _ _ _ h21) ob)))))))))))))))))))))))))))))))))))))))) (by kernel_rfl)
    · rw [if_neg h7] at h
      replace h7 := Bool.eq_false_iff.2 h7
      rcases h22 : plan_step_j1 t n  a15 true a1 a2 a3 a4 a5 a6 a7 a8 a9 a10 a11 a12 a13 a14 a537 a538 a539 a540 a541 a542 a543 a544 a545 a546 with _ | q_
      · rw [h22] at h; cases h
      rw [h22] at h
      rcases q_ with a619 | ⟨a620, a621, a622, a623, a624, a625, a626, a627, a628, a629, a630, a631, a632, a633, a634⟩
      · dsimp only at h
        rw [← Option.some.inj h]
        exact run_path Tryd.func50 (ob_c (ht.plan_Name _ _ h1) (ob_b h2 (ob_c (ht.plan_shapes _ h3) (ob_n h4 (ob_t (look_ts Gshape.ts_map h5) (ob_v (len_ts texts_map (l := a2)) (ob_c (ht.plan_in _ _ _ h6) (ob_b (congrArg (!·) h7) (ob_b (congrArg (!·) h7) (ob_b (congrArg (!·) h7) (ob_b (congrArg (!·) h7) (ob_b (congrArg (!·) h7) (ob_b (congrArg (!·) h7) (ob_b (congrArg (!·) h7) (ob_b (congrArg (!·) h7) (ob_b (rfl : true = true) (ob_b (rfl : true = true) (ob_b (rfl : true = true) (ob_b (rfl : true = true) (ob_b (rfl : true = true) (ob_b (rfl : true = true) (ob_b (rfl : true = true) (ob_b (rfl : true = true) (ob_b (rfl : true = true) (ob_b (rfl : true = true) (ob_b (rfl : true = true) (ob_b (rfl : true = true) (ob_b (rfl : true = true) (ob_b (rfl : true = true) (ob_b (rfl : true = true) (ob_b (rfl : true = true) (ob_b (rfl : true = true) (ob_b (rfl : true = true) (ob_b (rfl : true = true) (ob_b (rfl : true = true) (ob_b (rfl : true = true) (ob_j (plan_step_j1.ok ht n _ _ _ _ _ _ _ _ _ _ _ _ _ _ _ _ _ _ _ _ _ _ _ _ _ _ _ h22) ob))))))))))))))))))))))))))))))))))))) (by kernel_rfl)
      · dsimp only at h
        obtain ⟨a635, rfl⟩ : ∃ z_, z_ = r := ⟨_, rfl⟩
        have h23 := h
        exact run_path Tryd.func50 (ob_c (ht.plan_Name _ _ h1) (ob_b h2 (ob_c (ht.plan_shapes _ h3) (ob_n h4 (ob_t (look_ts Gshape.ts_map h5) (ob_v (len_ts texts_map (l := a2)) (ob_c (ht.plan_in _ _ _ h6) (ob_b (congrArg (!·) h7) (ob_b (congrArg (!·) h7) (ob_b (congrArg (!·) h7) (ob_b (congrArg (!·) h7) (ob_b (congrArg (!·) h7) (ob_b (congrArg (!·) h7) (ob_b (congrArg (!·) h7) (ob_b (congrArg (!·) h7) (ob_b (rfl : true = true) (ob_b (rfl : true = true) (ob_b (rfl : true = true) (ob_b (rfl : true = true) (ob_b (rfl : true = true) (ob_b (rfl : true = true) (ob_b (rfl : true = true) (ob_b (rfl : true = true) (ob_b (rfl : true = true) (ob_b (rfl : true = true) (ob_b (rfl : true = true) (ob_b (rfl : true = true) (ob_b (rfl : true = true) (ob_b (rfl : true = true) (ob_b (rfl : true = true) (ob_b (rfl : true = true) (ob_b (rfl : true = true) (ob_b (rfl : true = true) (ob_b (rfl : true = true) (ob_b (rfl : true = true) (ob_b (rfl : true = true) (ob_j (plan_step_j1.ok ht n _ _ _ _ _ _ _ _ _ _ _ _ _ _ _ _ _ _ _ _ _ _ _ _ _ _ _ h22) (ob_j (plan_step_j5.ok ht n _ _ _ _ _ _ _ _ _ _ _ _ _ _ _ _ h23) ob)))))))))))))))))))))))))))))))))))))) (by kernel_rfl)
theorem plan_Name.ok {n : Nat} {t : Tab} (ht : TabOk t (run Tryd.prog own kp X n)) : ∀ (p1 : Int) r, plan_Name t n p1 = some r → run Tryd.prog own kp X (n + 1) 19 [(.t (.v (.int .i64 p1)))] [] = some ((.t (.v (.string r))), []) := by
  intro p1 r h
  obtain ⟨a1, rfl⟩ : ∃ z_, z_ = p1 := ⟨_, rfl⟩
  rw [plan_Name] at h
  by_cases h1 : (decide (a1 < 1)) = true
  · rw [if_pos h1] at h
    rw [← Option.some.inj h]
    exact run_path Tryd.func19 (ob_b h1 (ob_b h1 (ob_b h1 (ob_b (rfl : true = true) ob)))) (by kernel_rfl)
  · rw [if_neg h1] at h
    replace h1 := Bool.eq_false_iff.2 h1
    by_cases h2 : (decide (a1 > 51)) = true
    · rw [if_pos h2] at h
      rw [← Option.some.inj h]
      exact run_path Tryd.func19 (ob_b h1 (ob_b h1 (ob_b h1 (ob_b h2 ob)))) (by kernel_rfl)
    · rw [if_neg h2] at h
      replace h2 := Bool.eq_false_iff.2 h2
      by_cases h3 : (decide (0 ≤ (a1 : Int) ∧ (a1 : Int) < ((52 : Nat) : Int))) = true
      case neg => rw [if_neg h3] at h; cases h
      rw [if_pos h3] at h
      rcases h4 : gl0[(a1 : Int).toNat]? with _ | a2
      · rw [h4] at h; cases h
      rw [h4] at h
      dsimp only at h
      rw [← Option.some.inj h]
      exact run_path Tryd.func19 (ob_b h1 (ob_b h1 (ob_b h1 (ob_b h2 (ob_n h3 (ob_t (look_ts texts_map h4) ob)))))) (by kernel_rfl)
theorem plan_shapes.ok {n : Nat} {t : Tab} (ht : TabOk t (run Tryd.prog own kp X n)) : ∀ r, plan_shapes t n = some r → run Tryd.prog own kp X (n + 1) 63 [] [] = some ((.t (GT90.t r)), []) := by
  intro r h
  rw [plan_shapes] at h
  rw [← Option.some.inj h]
  exact run_path Tryd.func63 ob (by kernel_rfl)
theorem plan_in.ok {n : Nat} {t : Tab} (ht : TabOk t (run Tryd.prog own kp X n)) : ∀ (p1 : Int) (p2 : GT87) r, plan_in t n p1 p2 = some r → run Tryd.prog own kp X (n + 1) 66 [(.t (.v (.int .i64 p1))), (.t (GT87.t p2))] [] = some ((.t (.v (.bool r))), []) := by
  intro p1 p2 r h
  obtain ⟨a1, rfl⟩ : ∃ z_, z_ = p1 := ⟨_, rfl⟩
  obtain ⟨a2, a3⟩ := p2
  rw [plan_in] at h
  by_cases h1 : (decide (a1 ≥ a2)) = true
  · rw [if_pos h1] at h
    rw [← Option.some.inj h]
    exact run_path Tryd.func66 (ob_b h1 (ob_b h1 (ob_b h1 (ob_b h1 (ob_b h1 ob))))) (by kernel_rfl)
  · rw [if_neg h1] at h
    replace h1 := Bool.eq_false_iff.2 h1
    rw [← Option.some.inj h]
    exact run_path Tryd.func66 (ob_b h1 (ob_b h1 (ob_b h1 (ob_b h1 (ob_b h1 ob))))) (by kernel_rfl)
theorem slices_ContainsFunc_plan_step_1.ok {n : Nat} {t : Tab} (ht : TabOk t (run Tryd.prog own kp X n)) : ∀ (p1 : List ByteArray) r, slices_ContainsFunc_plan_step_1 t n p1 = some r → run Tryd.prog own kp X (n + 1) 67 [(.t (.sl false 1 (texts p1))), (.fn 64 [])] [] = some ((.t (.v (.bool r))), []) := by
  intro p1 r h
  obtain ⟨a1, rfl⟩ : ∃ z_, z_ = p1 := ⟨_, rfl⟩
  rw [slices_ContainsFunc_plan_step_1] at h
  rcases h1 : t.slices_IndexFunc_plan_step_1 a1 with _ | a2
  · rw [h1] at h; cases h
  rw [h1] at h
  dsimp only at h
  rw [← Option.some.inj h]
  exact run_path Tryd.func67 (ob_c (ht.slices_IndexFunc_plan_step_1 _ _ h1) ob) (by kernel_rfl)
theorem value_Check.ok {n : Nat} {t : Tab} (ht : TabOk t (run Tryd.prog own kp X n)) : ∀ (p1 : GValue) r, value_Check t n p1 = some r → run Tryd.prog own kp X (n + 1) 69 [(.t (GValue.t p1))] [] = some ((.t (.v (.int .i64 r))), []) := by
  intro p1 r h
  obtain ⟨a1, a2, a3, a4, a5⟩ := p1
  rw [value_Check] at h
  rcases h1 : t.value_plain (GValue.mk a1 a2 a3 a4 a5) 1 with _ | a6
  · rw [h1] at h; cases h
  rw [h1] at h
  dsimp only at h
  by_cases h2 : a6 = true
  · rw [if_pos h2] at h
    rw [← Option.some.inj h]
    exact run_path Tryd.func69 (ob_c (ht.value_plain _ _ _ h1) (ob_b (congrArg (!·) h2) ob)) (by kernel_rfl)
  · rw [if_neg h2] at h
    replace h2 := Bool.eq_false_iff.2 h2
    rw [← Option.some.inj h]
    exact run_path Tryd.func69 (ob_c (ht.value_plain _ _ _ h1) (ob_b (congrArg (!·) h2) ob)) (by kernel_rfl)
theorem pred_Check.ok {n : Nat} {t : Tab} (ht : TabOk t (run Tryd.prog own kp X n)) : ∀ (p1 : GPred) r, pred_Check t n p1 = some r → run Tryd.prog own kp X (n + 1) 70 [(.t (GPred.t p1))] [] = some ((.t (.v (.int .i64 r))), []) := by
  intro p1 r h
  obtain ⟨a1, a2, a3⟩ := p1
  rw [pred_Check] at h
  rcases h1 : t.pred_right (GPred.mk a1 a2 a3) 1 with _ | a4
  · rw [h1] at h; cases h
  rw [h1] at h
  dsimp only at h
  by_cases h2 : a4 = true
  · rw [if_pos h2] at h
    rw [← Option.some.inj h]
    exact run_path Tryd.func70 (ob_c (ht.pred_right _ _ _ h1) (ob_b (congrArg (!·) h2) ob)) (by kernel_rfl)
  · rw [if_neg h2] at h
    replace h2 := Bool.eq_false_iff.2 h2
    rw [← Option.some.inj h]
    exact run_path Tryd.func70 (ob_c (ht.pred_right _ _ _ h1) (ob_b (congrArg (!·) h2) ob)) (by kernel_rfl)
theorem plan_twice_l1.okL (ht : TabOk t call) (n : Nat) : ∀ (k : Nat) (a1 a2 : List ByteArray) (a3 a4 : Int) (r : _), plan_twice_l1 t n k a1 a2 a3 a4 = some r → loopN (exec (env Tryd.prog 72 Tryd.f72 call) n (sub [1, 0, 1, 0, 0] (bodyOf Tryd.f72))) k (mkSt 18 18 [(0, (.t (.sl false 1 (texts a1)))), (5, (.t (.sl false 1 (texts a2)))), (6, (.t (.v (.int .i64 a3)))), (7, (.t (.v (.int .i64 a4))))] []) = some (plan_twice_l1.to r)
  | 0, a1, a2, a3, a4, r, h => by rw [plan_twice_l1] at h; cases h
  | k + 1, a1, a2, a3, a4, r, h => by
    rw [plan_twice_l1] at h
    by_cases h1 : (decide (a4 < a3)) = true
    · rw [if_pos h1] at h
      by_cases h2 : (decide (0 ≤ (a4 : Int))) = true
      case neg => rw [if_neg h2] at h; cases h
      rw [if_pos h2] at h
      rcases h3 : a2[(a4 : Int).toNat]? with _ | a5
      · rw [h3] at h; cases h
      rw [h3] at h
      dsimp only at h
      by_cases h4 : (decide (0 ≤ (0 : Int) ∧ (0 : Int) ≤ (a4 : Int) ∧ (a4 : Int) ≤ (a1.length : Int))) = true
      case neg => rw [if_neg h4] at h; cases h
      rw [if_pos h4] at h
      rcases h5 : t.slices_Contains_string ((a1.take (a4 : Int).toNat).drop (0 : Int).toNat) a5 with _ | a6
      · rw [h5] at h; cases h
      rw [h5] at h
      dsimp only at h
      by_cases h6 : a6 = true
      · rw [if_pos h6] at h
        rw [← Option.some.inj h]
        exact loop_out (path (ob_b h1 (ob_n h2 (ob_t (look_ts texts_map h3) (ob_n (within_ts texts_map h4) (ob_l (cut_ts texts_map (l := a1) (h := (a4 : Int).toNat) (i := (0 : Int).toNat)) (ob_c (ht.slices_Contains_string _ _ _ h5) (ob_b h6 ob))))))) (by kernel_rfl)) (fun h => by cases h)
      · rw [if_neg h6] at h
        replace h6 := Bool.eq_false_iff.2 h6
        exact loop_more (path (ob_b h1 (ob_n h2 (ob_t (look_ts texts_map h3) (ob_n (within_ts texts_map h4) (ob_l (cut_ts texts_map (l := a1) (h := (a4 : Int).toNat) (i := (0 : Int).toNat)) (ob_c (ht.slices_Contains_string _ _ _ h5) (ob_b h6 ob))))))) (by kernel_rfl)) (plan_twice_l1.okL ht n k _ _ _ _ _ h)
    · rw [if_neg h1] at h
      replace h1 := Bool.eq_false_iff.2 h1
      rw [← Option.some.inj h]
      exact loop_out (path (ob_b h1 ob) (by kernel_rfl)) (fun h => by cases h)
theorem plan_twice_l1.ok (ht : TabOk t call) (n : Nat) (a1 a2 : List ByteArray) (a3 a4 : Int) (r : _) (h : plan_twice_l1 t n n a1 a2 a3 a4 = some r) : exec (env Tryd.prog 72 Tryd.f72 call) n (sub [1, 0, 1, 0] (bodyOf Tryd.f72)) (mkSt 18 18 [(0, (.t (.sl false 1 (texts a1)))), (5, (.t (.sl false 1 (texts a2)))), (6, (.t (.v (.int .i64 a3)))), (7, (.t (.v (.int .i64 a4))))] []) = some (plan_twice_l1.to r) := by
  have e1 : sub [1, 0, 1, 0] (bodyOf Tryd.f72) = .loop (sub [1, 0, 1, 0, 0] (bodyOf Tryd.f72)) := by kernel_rfl
  rw [e1, exec]
  exact plan_twice_l1.okL ht n n a1 a2 a3 a4 r h
theorem plan_twice.ok {n : Nat} {t : Tab} (ht : TabOk t (run Tryd.prog own kp X n)) : ∀ (p1 : List ByteArray) r, plan_twice t n p1 = some r → run Tryd.prog own kp X (n + 1) 72 [(.t (.sl false 1 (texts p1)))] [] = some ((.t (.v (.bool r))), []) := by
  intro p1 r h
  obtain ⟨a1, rfl⟩ : ∃ z_, z_ = p1 := ⟨_, rfl⟩
  rw [plan_twice] at h
  rcases h1 : plan_twice_l1 t n n a1 a1 (a1.length : Int) 0 with _ | q_
  · rw [h1] at h; cases h
  rw [h1] at h
  rcases q_ with a2 | ⟨a3, a4, a5, a6, a7⟩
  · dsimp only at h
    rw [← Option.some.inj h]
    exact run_path Tryd.func72 (ob_v (len_ts texts_map (l := a1)) (ob_k (plan_twice_l1.ok ht n _ _ _ _ _ h1) ob)) (by kernel_rfl)
  · dsimp only at h
    rw [← Option.some.inj h]
    exact run_path Tryd.func72 (ob_v (len_ts texts_map (l := a1)) (ob_k (plan_twice_l1.ok ht n _ _ _ _ _ h1) ob)) (by kernel_rfl)
theorem plan_empty.ok {n : Nat} {t : Tab} (ht : TabOk t (run Tryd.prog own kp X n)) : ∀ (p1 : GPred) r, plan_empty t n p1 = some r → run Tryd.prog own kp X (n + 1) 71 [(.t (GPred.t p1))] [] = some ((.t (.v (.bool r))), []) := by
  intro p1 r h
  obtain ⟨a1, a2, a3⟩ := p1
  rw [plan_empty] at h
  by_cases h1 : (a1 == 0) = true
  · rw [if_pos h1] at h
    rw [← Option.some.inj h]
    exact run_path Tryd.func71 (ob_b h1 (ob_b h1 (ob_b h1 (ob_v (len_ts GValue.ts_map (l := a2)) (ob_b h1 (ob_b h1 (ob_b h1 (ob_v (len_ts GPred.ts_map (l := a3)) (ob_b h1 (ob_b h1 (ob_b h1 ob))))))))))) (by kernel_rfl)
  · rw [if_neg h1] at h
    replace h1 := Bool.eq_false_iff.2 h1
    rw [← Option.some.inj h]
    exact run_path Tryd.func71 (ob_b h1 (ob_b h1 (ob_b h1 (ob_b h1 (ob_b h1 (ob_b h1 (ob_b h1 (ob_b h1 (ob_b h1 ob))))))))) (by kernel_rfl)
theorem value_Same.ok {n : Nat} {t : Tab} (ht : TabOk t (run Tryd.prog own kp X n)) : ∀ (p1 : GValue) (p2 : GValue) r, value_Same t n p1 p2 = some r → run Tryd.prog own kp X (n + 1) 35 [(.t (GValue.t p1)), (.t (GValue.t p2))] [] = some ((.t (.v (.bool r))), []) := by
  intro p1 p2 r h
  obtain ⟨a1, a2, a3, a4, a5⟩ := p1
  obtain ⟨a6, a7, a8, a9, a10⟩ := p2
  rw [value_Same] at h
  rcases h1 : t.value_Cmp (GValue.mk a1 a2 a3 a4 a5) (GValue.mk a6 a7 a8 a9 a10) with _ | a11
  · rw [h1] at h; cases h
  rw [h1] at h
  dsimp only at h
  rw [← Option.some.inj h]
  exact run_path Tryd.func35 (ob_c (ht.value_Cmp _ _ _ h1) ob) (by kernel_rfl)
theorem plan_numbers_j1.ok (ht : TabOk t call) (n : Nat) (a1 : Bool) (a2 : Int) (a3 : List ByteArray) (a4 : List Int) (a5 a6 : Int) (a7 : ByteArray) (a8 a9 : List GValue) (a10 : Int) (a11 : List GValue) (a12 : List GPred) (a13 : List (List GStep)) (a14 : List GBy) (a15 : List ByteArray) (r : _) (h : plan_numbers_j1 t n a1 a2 a3 a4 a5 a6 a7 a8 a9 a10 a11 a12 a13 a14 a15 = some r) : exec (env Tryd.prog 68 Tryd.f68 call) n (sub [1, 0, 1, 0, 1, 1, 1, 1, 1] (bodyOf Tryd.f68)) (mkSt 78 78 [(1, (.ptr 1 0 [] 0)), (64, (.t (.v (.bool a1))))] [(1, (.t (.st [(.v (.int .i64 a2)), (.sl false 1 (texts a3)), (.sl false 1 (ints_i64 a4)), (.st [(.v (.int .i64 a5)), (.v (.int .i64 a6)), (.v (.string a7)), (.sl false 5 (GValue.ts a8)), (.sl false 5 (GValue.ts a9))]), (.st [(.v (.int .i64 a10)), (.sl false 5 (GValue.ts a11)), (.sl false 3 (GPred.ts a12))]), (.sl false 1 (rows_GStep_ts a13)), (.sl false 4 (GBy.ts a14)), (.sl false 1 (texts a15))])))]) = some (plan_numbers_j1.to r) := by
  rw [plan_numbers_j1] at h
  by_cases h1 : a1 = true
  · rw [if_pos h1] at h
    by_cases h2 : (a2 == 21) = true
    · rw [if_pos h2] at h
      rw [← Option.some.inj h]
      exact path (ob_b h1 (ob_b h2 (ob_b h2 (ob_b h2 (ob_b h2 (ob_b h2 ob)))))) (by kernel_rfl)
    · rw [if_neg h2] at h
      replace h2 := Bool.eq_false_iff.2 h2
      rcases h3 : t.slices_ContainsFunc_plan_numbers_1 a4 with _ | a16
      · rw [h3] at h; cases h
      rw [h3] at h
      dsimp only at h
      rw [← Option.some.inj h]
      exact path (ob_b h1 (ob_b h2 (ob_b h2 (ob_b h2 (ob_c (ht.slices_ContainsFunc_plan_numbers_1 _ _ h3) (ob_b h2 (ob_b h2 ob))))))) (by kernel_rfl)
  · rw [if_neg h1] at h
    replace h1 := Bool.eq_false_iff.2 h1
    rw [← Option.some.inj h]
    exact path (ob_b h1 ob) (by kernel_rfl)
theorem plan_numbers.ok {n : Nat} {t : Tab} (ht : TabOk t (run Tryd.prog own kp X n)) : ∀ (p1 : GStep) r, plan_numbers t n p1 = some r → run Tryd.prog own kp X (n + 1) 68 [(.t (GStep.t p1))] [] = some ((.t (.v (.bool r))), []) := by
  intro p1 r h
  obtain ⟨a1, a2, a3, ⟨a4, a5, a6, a7, a8⟩, ⟨a9, a10, a11⟩, a12, a13, a14⟩ := p1
  rw [plan_numbers] at h
  by_cases h1 : (a1 == 24) = true
  · rw [if_pos h1] at h
    by_cases h2 : (decide (0 ≤ (0 : Int))) = true
    case neg => rw [if_neg h2] at h; cases h
    rw [if_pos h2] at h
    rcases h3 : a3[(0 : Int).toNat]? with _ | a15
    · rw [h3] at h; cases h
    rw [h3] at h
    dsimp only at h
    by_cases h4 : (decide (a15 ≥ 0)) = true
    · rw [if_pos h4] at h
      by_cases h5 : (decide (0 ≤ (1 : Int))) = true
      case neg => rw [if_neg h5] at h; cases h
      rw [if_pos h5] at h
      rcases h6 : a3[(1 : Int).toNat]? with _ | a16
      · rw [h6] at h; cases h
      rw [h6] at h
      dsimp only at h
      by_cases h7 : (a16 == (-1)) = true
      · rw [if_pos h7] at h
        rw [← Option.some.inj h]
        exact run_path Tryd.func68 (ob_b h1 (ob_n h2 (ob_t (look_ts ints_i64_map h3) (ob_b h4 (ob_b h4 (ob_b h4 (ob_n h5 (ob_t (look_ts ints_i64_map h6) (ob_b h4 (ob_b h4 (ob_b h4 (ob_b h7 (ob_b h7 (ob_b h7 (ob_b h7 (ob_b h7 (ob_b h7 (ob_b h7 (ob_b h7 (ob_b h7 (ob_b h4 (ob_b h7 (ob_b h4 ob))))))))))))))))))))))) (by kernel_rfl)
      · rw [if_neg h7] at h
        replace h7 := Bool.eq_false_iff.2 h7
        rw [← Option.some.inj h]
        exact run_path Tryd.func68 (ob_b h1 (ob_n h2 (ob_t (look_ts ints_i64_map h3) (ob_b h4 (ob_b h4 (ob_b h4 (ob_n h5 (ob_t (look_ts ints_i64_map h6) (ob_b h4 (ob_b h4 (ob_b h4 (ob_b h7 (ob_b h7 (ob_b h7 (ob_n h5 (ob_t (look_ts ints_i64_map h6) (ob_b h7 (ob_b h7 (ob_b h7 (ob_b h7 (ob_n h2 (ob_t (look_ts ints_i64_map h3) (ob_b h7 (ob_b h7 (ob_b h4 (ob_b h7 (ob_b h4 ob))))))))))))))))))))))))))) (by kernel_rfl)
    · rw [if_neg h4] at h
      replace h4 := Bool.eq_false_iff.2 h4
      rw [← Option.some.inj h]
      exact run_path Tryd.func68 (ob_b h1 (ob_n h2 (ob_t (look_ts ints_i64_map h3) (ob_b h4 (ob_b h4 (ob_b h4 (ob_b h4 (ob_b h4 (ob_b h4 (ob_b h4 (ob_b h4 ob))))))))))) (by kernel_rfl)
  · rw [if_neg h1] at h
    replace h1 := Bool.eq_false_iff.2 h1
    by_cases h8 : (a1 == 48) = true
    · rw [if_pos h8] at h
      by_cases h9 : (decide (0 ≤ (0 : Int))) = true
      case neg => rw [if_neg h9] at h; cases h
      rw [if_pos h9] at h
      rcases h10 : a3[(0 : Int).toNat]? with _ | a17
      · rw [h10] at h; cases h
      rw [h10] at h
      dsimp only at h
      by_cases h11 : (decide (a17 ≥ (-1))) = true
      · rw [if_pos h11] at h
        by_cases h12 : (decide (0 ≤ (1 : Int))) = true
        case neg => rw [if_neg h12] at h; cases h
        rw [if_pos h12] at h
        rcases h13 : a3[(1 : Int).toNat]? with _ | a18
        · rw [h13] at h; cases h
        rw [h13] at h
        dsimp only at h
        by_cases h14 : (decide (a18 ≥ 0)) = true
        · rw [if_pos h14] at h
          by_cases h15 : (decide (a18 ≤ 1)) = true
          · rw [if_pos h15] at h
            by_cases h16 : ((a12.length : Int) == 2) = true
            · rw [if_pos h16] at h
              rw [← Option.some.inj h]
              exact run_path Tryd.func68 (ob_b h1 (ob_b h8 (ob_n h9 (ob_t (look_ts ints_i64_map h10) (ob_b h11 (ob_b h11 (ob_b h11 (ob_n h12 (ob_t (look_ts ints_i64_map h13) (ob_b h11 (ob_b h11 (ob_b h11 (ob_b h14 (ob_b h14 (ob_b h14 (ob_n h12 (ob_t (look_ts ints_i64_map h13) (ob_b h14 (ob_b h14 (ob_b h14 (ob_b h15 (ob_b h15 (ob_b h15 (ob_v (len_ts rows_GStep_ts_map (l := a12)) (ob_b h15 (ob_b h15 (ob_b h16 (ob_b h16 (ob_b h16 (ob_b h16 (ob_b h16 (ob_b h15 (ob_b h16 (ob_b h15 ob)))))))))))))))))))))))))))))))))) (by kernel_rfl)
            · rw [if_neg h16] at h
              replace h16 := Bool.eq_false_iff.2 h16
              rw [← Option.some.inj h]
              exact run_path Tryd.func68 (ob_b h1 (ob_b h8 (ob_n h9 (ob_t (look_ts ints_i64_map h10) (ob_b h11 (ob_b h11 (ob_b h11 (ob_n h12 (ob_t (look_ts ints_i64_map h13) (ob_b h11 (ob_b h11 (ob_b h11 (ob_b h14 (ob_b h14 (ob_b h14 (ob_n h12 (ob_t (look_ts ints_i64_map h13) (ob_b h14 (ob_b h14 (ob_b h14 (ob_b h15 (ob_b h15 (ob_b h15 (ob_v (len_ts rows_GStep_ts_map (l := a12)) (ob_b h15 (ob_b h15 (ob_b h16 (ob_b h16 (ob_b h16 (ob_n h9 (ob_t (look_ts ints_i64_map h10) (ob_b h16 (ob_b h16 (ob_b h15 (ob_b h16 (ob_b h15 ob)))))))))))))))))))))))))))))))))))) (by kernel_rfl)
          · rw [if_neg h15] at h
            replace h15 := Bool.eq_false_iff.2 h15
            rw [← Option.some.inj h]
            exact run_path Tryd.func68 (ob_b h1 (ob_b h8 (ob_n h9 (ob_t (look_ts ints_i64_map h10) (ob_b h11 (ob_b h11 (ob_b h11 (ob_n h12 (ob_t (look_ts ints_i64_map h13) (ob_b h11 (ob_b h11 (ob_b h11 (ob_b h14 (ob_b h14 (ob_b h14 (ob_n h12 (ob_t (look_ts ints_i64_map h13) (ob_b h14 (ob_b h14 (ob_b h14 (ob_b h15 (ob_b h15 (ob_b h15 (ob_b h15 (ob_b h15 (ob_b h15 (ob_b h15 ob))))))))))))))))))))))))))) (by kernel_rfl)
        · rw [if_neg h14] at h
          replace h14 := Bool.eq_false_iff.2 h14
          rw [← Option.some.inj h]
          exact run_path Tryd.func68 (ob_b h1 (ob_b h8 (ob_n h9 (ob_t (look_ts ints_i64_map h10) (ob_b h11 (ob_b h11 (ob_b h11 (ob_n h12 (ob_t (look_ts ints_i64_map h13) (ob_b h11 (ob_b h11 (ob_b h11 (ob_b h14 (ob_b h14 (ob_b h14 (ob_b h14 (ob_b h14 (ob_b h14 (ob_b (rfl : false = false) (ob_b (rfl : false = false) (ob_b (rfl : false = false) (ob_b (rfl : false = false) (ob_b (rfl : false = false) (ob_b (rfl : false = false) (ob_b (rfl : false = false) ob))))))))))))))))))))))))) (by kernel_rfl)
      · rw [if_neg h11] at h
        replace h11 := Bool.eq_false_iff.2 h11
        rw [← Option.some.inj h]
        exact run_path Tryd.func68 (ob_b h1 (ob_b h8 (ob_n h9 (ob_t (look_ts ints_i64_map h10) (ob_b h11 (ob_b h11 (ob_b h11 (ob_b h11 (ob_b h11 (ob_b h11 (ob_b (rfl : false = false) (ob_b (rfl : false = false) (ob_b (rfl : false = false) (ob_b (rfl : false = false) (ob_b (rfl : false = false) (ob_b (rfl : false = false) (ob_b (rfl : false = false) (ob_b (rfl : false = false) (ob_b (rfl : false = false) (ob_b (rfl : false = false) (ob_b (rfl : false = false) (ob_b (rfl : false = false) (ob_b (rfl : false = false) ob))))))))))))))))))))))) (by kernel_rfl)
    · rw [if_neg h8] at h
      replace h8 := Bool.eq_false_iff.2 h8
      by_cases h17 : (a1 == 1) = true
      · rw [if_pos h17] at h
        rcases h18 : plan_numbers_j1 t n  (a1 == 1) a1 a2 a3 a4 a5 a6 a7 a8 a9 a10 a11 a12 a13 a14 with _ | q_
        · rw [h18] at h; cases h
        rw [h18] at h
        rcases q_ with a19 | _
        · dsimp only at h
          rw [← Option.some.inj h]
          exact run_path Tryd.func68 (ob_b h1 (ob_b h8 (ob_b h17 (ob_j (plan_numbers_j1.ok ht n _ _ _ _ _ _ _ _ _ _ _ _ _ _ _ _ h18) ob)))) (by kernel_rfl)
        · dsimp only at h
          rw [← Option.some.inj h]
          exact run_path Tryd.func68 (ob_b h1 (ob_b h8 (ob_b h17 (ob_j (plan_numbers_j1.ok ht n _ _ _ _ _ _ _ _ _ _ _ _ _ _ _ _ h18) ob)))) (by kernel_rfl)
      · rw [if_neg h17] at h
        replace h17 := Bool.eq_false_iff.2 h17
        by_cases h19 : (a1 == 2) = true
        · rw [if_pos h19] at h
          rcases h20 : plan_numbers_j1 t n  (a1 == 2) a1 a2 a3 a4 a5 a6 a7 a8 a9 a10 a11 a12 a13 a14 with _ | q_
          · rw [h20] at h; cases h
          rw [h20] at h
          rcases q_ with a20 | _
          · dsimp only at h
            rw [← Option.some.inj h]
            exact run_path Tryd.func68 (ob_b h1 (ob_b h8 (ob_b h17 (ob_b h19 (ob_j (plan_numbers_j1.ok ht n _ _ _ _ _ _ _ _ _ _ _ _ _ _ _ _ h20) ob))))) (by kernel_rfl)
          · dsimp only at h
            rw [← Option.some.inj h]
            exact run_path Tryd.func68 (ob_b h1 (ob_b h8 (ob_b h17 (ob_b h19 (ob_j (plan_numbers_j1.ok ht n _ _ _ _ _ _ _ _ _ _ _ _ _ _ _ _ h20) ob))))) (by kernel_rfl)
        · rw [if_neg h19] at h
          replace h19 := Bool.eq_false_iff.2 h19
          by_cases h21 : (a1 == 21) = true
          · rw [if_pos h21] at h
            rcases h22 : plan_numbers_j1 t n  (a1 == 21) a1 a2 a3 a4 a5 a6 a7 a8 a9 a10 a11 a12 a13 a14 with _ | q_
            · rw [h22] at h; cases h
            rw [h22] at h
            rcases q_ with a21 | _
            · dsimp only at h
              rw [← Option.some.inj h]
              exact run_path Tryd.func68 (ob_b h1 (ob_b h8 (ob_b h17 (ob_b h19 (ob_b h21 (ob_j (plan_numbers_j1.ok ht n _ _ _ _ _ _ _ _ _ _ _ _ _ _ _ _ h22) ob)))))) (by kernel_rfl)
            · dsimp only at h
              rw [← Option.some.inj h]
              exact run_path Tryd.func68 (ob_b h1 (ob_b h8 (ob_b h17 (ob_b h19 (ob_b h21 (ob_j (plan_numbers_j1.ok ht n _ _ _ _ _ _ _ _ _ _ _ _ _ _ _ _ h22) ob)))))) (by kernel_rfl)
          · rw [if_neg h21] at h
            replace h21 := Bool.eq_false_iff.2 h21
            rcases h23 : plan_numbers_j1 t n  (a1 == 25) a1 a2 a3 a4 a5 a6 a7 a8 a9 a10 a11 a12 a13 a14 with _ | q_
            · rw [h23] at h; cases h
            rw [h23] at h
            rcases q_ with a22 | _
            · dsimp only at h
              rw [← Option.some.inj h]
              exact run_path Tryd.func68 (ob_b h1 (ob_b h8 (ob_b h17 (ob_b h19 (ob_b h21 (ob_j (plan_numbers_j1.ok ht n _ _ _ _ _ _ _ _ _ _ _ _ _ _ _ _ h23) ob)))))) (by kernel_rfl)
            · dsimp only at h
              rw [← Option.some.inj h]
              exact run_path Tryd.func68 (ob_b h1 (ob_b h8 (ob_b h17 (ob_b h19 (ob_b h21 (ob_j (plan_numbers_j1.ok ht n _ _ _ _ _ _ _ _ _ _ _ _ _ _ _ _ h23) ob)))))) (by kernel_rfl)
theorem plan_by_j1.ok (ht : TabOk t call) (n : Nat) (a1 a2 : Int) (a3 : ByteArray) (a4 : List GStep) (a5 : Bool) (r : _) (h : plan_by_j1 t n a1 a2 a3 a4 a5 = some r) : exec (env Tryd.prog 73 Tryd.f73 call) n (sub [1, 1] (bodyOf Tryd.f73)) (mkSt 50 50 [(2, (.t (.v (.int .i64 a1)))), (3, (.ptr 3 0 [] 0))] [(3, (.t (.st [(.v (.int .i64 a2)), (.v (.string a3)), (.sl false 14 (GStep.ts a4)), (.v (.bool a5))])))]) = some (plan_by_j1.to r) := by
  rw [plan_by_j1] at h
  by_cases h1 : (a2 == 1) = true
  · rw [if_pos h1] at h
    rw [← Option.some.inj h]
    exact path (ob_b h1 ob) (by kernel_rfl)
  · rw [if_neg h1] at h
    replace h1 := Bool.eq_false_iff.2 h1
    by_cases h2 : (a2 == 2) = true
    · rw [if_pos h2] at h
      obtain ⟨a6, rfl⟩ : ∃ z_, z_ = r := ⟨_, rfl⟩
      have h3 := h
      exact path (ob_b h1 (ob_b h2 (ob_c (ht.graph_Name _ _ h3) ob))) (by kernel_rfl)
    · rw [if_neg h2] at h
      replace h2 := Bool.eq_false_iff.2 h2
      by_cases h4 : (a2 == 3) = true
      · rw [if_pos h4] at h
        obtain ⟨a7, rfl⟩ : ∃ z_, z_ = r := ⟨_, rfl⟩
        have h5 := h
        exact path (ob_b h1 (ob_b h2 (ob_b h4 (ob_c (ht.plan_right _ _ _ h5) ob)))) (by kernel_rfl)
      · rw [if_neg h4] at h
        replace h4 := Bool.eq_false_iff.2 h4
        rw [← Option.some.inj h]
        exact path (ob_b h1 (ob_b h2 (ob_b h4 ob))) (by kernel_rfl)
theorem plan_by.ok {n : Nat} {t : Tab} (ht : TabOk t (run Tryd.prog own kp X n)) : ∀ (p1 : GBy) (p2 : Bool) (p3 : Int) r, plan_by t n p1 p2 p3 = some r → run Tryd.prog own kp X (n + 1) 73 [(.t (GBy.t p1)), (.t (.v (.bool p2))), (.t (.v (.int .i64 p3)))] [] = some ((.t (.v (.bool r))), []) := by
  intro p1 p2 p3 r h
  obtain ⟨a1, a2, a3, a4⟩ := p1
  obtain ⟨a5, rfl⟩ : ∃ z_, z_ = p2 := ⟨_, rfl⟩
  obtain ⟨a6, rfl⟩ : ∃ z_, z_ = p3 := ⟨_, rfl⟩
  rw [plan_by] at h
  by_cases h1 : a4 = true
  · rw [if_pos h1] at h
    by_cases h2 : a5 = true
    · rw [if_pos h2] at h
      by_cases h3 : (a1 != 2) = true
      · rw [if_pos h3] at h
        by_cases h4 : (a2.toList == (ByteArray.mk #[]).toList) = true
        · rw [if_pos h4] at h
          by_cases h5 : (a1 != 3) = true
          · rw [if_pos h5] at h
            by_cases h6 : (decide ((a3.length : Int) > 0)) = true
            · rw [if_pos h6] at h
              rw [← Option.some.inj h]
              exact run_path Tryd.func73 (ob_b h1 (ob_b h1 (ob_b h1 (ob_b (congrArg (!·) h2) (ob_b (congrArg (!·) h2) (ob_b (congrArg (!·) h2) (ob_b (congrArg (!·) h2) (ob_b h3 (ob_b h3 (ob_b h3 (ob_b (congrArg (!·) h2) (ob_b h3 (ob_b (congrArg (!·) h2) (ob_b (congrArg (!·) h4) (ob_b (congrArg (!·) h4) (ob_b (congrArg (!·) h4) (ob_b (congrArg (!·) h4) (ob_b h5 (ob_b h5 (ob_b h5 (ob_v (len_ts GStep.ts_map (l := a3)) (ob_b h5 (ob_b (congrArg (!·) h4) (ob_b h5 (ob_b (congrArg (!·) h4) (ob_b h6 ob)))))))))))))))))))))))))) (by kernel_rfl)
            · rw [if_neg h6] at h
              replace h6 := Bool.eq_false_iff.2 h6
              obtain ⟨a7, rfl⟩ : ∃ z_, z_ = r := ⟨_, rfl⟩
              have h7 := h
              exact run_path Tryd.func73 (ob_b h1 (ob_b h1 (ob_b h1 (ob_b (congrArg (!·) h2) (ob_b (congrArg (!·) h2) (ob_b (congrArg (!·) h2) (ob_b (congrArg (!·) h2) (ob_b h3 (ob_b h3 (ob_b h3 (ob_b (congrArg (!·) h2) (ob_b h3 (ob_b (congrArg (!·) h2) (ob_b (congrArg (!·) h4) (ob_b (congrArg (!·) h4) (ob_b (congrArg (!·) h4) (ob_b (congrArg (!·) h4) (ob_b h5 (ob_b h5 (ob_b h5 (ob_v (len_ts GStep.ts_map (l := a3)) (ob_b h5 (ob_b (congrArg (!·) h4) (ob_b h5 (ob_b (congrArg (!·) h4) (ob_b h6 (ob_j (plan_by_j1.ok ht n _ _ _ _ _ _ h7) ob))))))))))))))))))))))))))) (by kernel_rfl)
          · rw [if_neg h5] at h
            replace h5 := Bool.eq_false_iff.2 h5
            obtain ⟨a8, rfl⟩ : ∃ z_, z_ = r := ⟨_, rfl⟩
            have h8 := h
            exact run_path Tryd.func73 (ob_b h1 (ob_b h1 (ob_b h1 (ob_b (congrArg (!·) h2) (ob_b (congrArg (!·) h2) (ob_b (congrArg (!·) h2) (ob_b (congrArg (!·) h2) (ob_b h3 (ob_b h3 (ob_b h3 (ob_b (congrArg (!·) h2) (ob_b h3 (ob_b (congrArg (!·) h2) (ob_b (congrArg (!·) h4) (ob_b (congrArg (!·) h4) (ob_b (congrArg (!·) h4) (ob_b (congrArg (!·) h4) (ob_b h5 (ob_b h5 (ob_b h5 (ob_b h5 (ob_b (congrArg (!·) h4) (ob_b h5 (ob_b (congrArg (!·) h4) (ob_b (rfl : false = false) (ob_j (plan_by_j1.ok ht n _ _ _ _ _ _ h8) ob)))))))))))))))))))))))))) (by kernel_rfl)
        · rw [if_neg h4] at h
          replace h4 := Bool.eq_false_iff.2 h4
          rw [← Option.some.inj h]
          exact run_path Tryd.func73 (ob_b h1 (ob_b h1 (ob_b h1 (ob_b (congrArg (!·) h2) (ob_b (congrArg (!·) h2) (ob_b (congrArg (!·) h2) (ob_b (congrArg (!·) h2) (ob_b h3 (ob_b h3 (ob_b h3 (ob_b (congrArg (!·) h2) (ob_b h3 (ob_b (congrArg (!·) h2) (ob_b (congrArg (!·) h4) (ob_b (congrArg (!·) h4) (ob_b (congrArg (!·) h4) (ob_b (congrArg (!·) h4) (ob_b (congrArg (!·) h4) (ob_b (congrArg (!·) h4) (ob_b (rfl : true = true) ob)))))))))))))))))))) (by kernel_rfl)
      · rw [if_neg h3] at h
        replace h3 := Bool.eq_false_iff.2 h3
        by_cases h9 : (a1 != 3) = true
        · rw [if_pos h9] at h
          by_cases h10 : (decide ((a3.length : Int) > 0)) = true
          · rw [if_pos h10] at h
            rw [← Option.some.inj h]
            exact run_path Tryd.func73 (ob_b h1 (ob_b h1 (ob_b h1 (ob_b (congrArg (!·) h2) (ob_b (congrArg (!·) h2) (ob_b (congrArg (!·) h2) (ob_b (congrArg (!·) h2) (ob_b h3 (ob_b h3 (ob_b h3 (ob_b (congrArg (!·) h2) (ob_b h3 (ob_b (congrArg (!·) h2) (ob_b (rfl : false = false) (ob_b (rfl : false = false) (ob_b (rfl : false = false) (ob_b (rfl : false = false) (ob_b h9 (ob_b h9 (ob_b h9 (ob_v (len_ts GStep.ts_map (l := a3)) (ob_b h9 (ob_b (rfl : false = false) (ob_b h9 (ob_b (rfl : false = false) (ob_b h10 ob)))))))))))))))))))))))))) (by kernel_rfl)
          · rw [if_neg h10] at h
            replace h10 := Bool.eq_false_iff.2 h10
            obtain ⟨a9, rfl⟩ : ∃ z_, z_ = r := ⟨_, rfl⟩
            have h11 := h
            exact run_path Tryd.func73 (ob_b h1 (ob_b h1 (ob_b h1 (ob_b (congrArg (!·) h2) (ob_b (congrArg (!·) h2) (ob_b (congrArg (!·) h2) (ob_b (congrArg (!·) h2) (ob_b h3 (ob_b h3 (ob_b h3 (ob_b (congrArg (!·) h2) (ob_b h3 (ob_b (congrArg (!·) h2) (ob_b (rfl : false = false) (ob_b (rfl : false = false) (ob_b (rfl : false = false) (ob_b (rfl : false = false) (ob_b h9 (ob_b h9 (ob_b h9 (ob_v (len_ts GStep.ts_map (l := a3)) (ob_b h9 (ob_b (rfl : false = false) (ob_b h9 (ob_b (rfl : false = false) (ob_b h10 (ob_j (plan_by_j1.ok ht n _ _ _ _ _ _ h11) ob))))))))))))))))))))))))))) (by kernel_rfl)
        · rw [if_neg h9] at h
          replace h9 := Bool.eq_false_iff.2 h9
          obtain ⟨a10, rfl⟩ : ∃ z_, z_ = r := ⟨_, rfl⟩
          have h12 := h
          exact run_path Tryd.func73 (ob_b h1 (ob_b h1 (ob_b h1 (ob_b (congrArg (!·) h2) (ob_b (congrArg (!·) h2) (ob_b (congrArg (!·) h2) (ob_b (congrArg (!·) h2) (ob_b h3 (ob_b h3 (ob_b h3 (ob_b (congrArg (!·) h2) (ob_b h3 (ob_b (congrArg (!·) h2) (ob_b (rfl : false = false) (ob_b (rfl : false = false) (ob_b (rfl : false = false) (ob_b (rfl : false = false) (ob_b h9 (ob_b h9 (ob_b h9 (ob_b h9 (ob_b (rfl : false = false) (ob_b h9 (ob_b (rfl : false = false) (ob_b (rfl : false = false) (ob_j (plan_by_j1.ok ht n _ _ _ _ _ _ h12) ob)))))))))))))))))))))))))) (by kernel_rfl)
    · rw [if_neg h2] at h
      replace h2 := Bool.eq_false_iff.2 h2
      rw [← Option.some.inj h]
      exact run_path Tryd.func73 (ob_b h1 (ob_b h1 (ob_b h1 (ob_b (congrArg (!·) h2) (ob_b (congrArg (!·) h2) (ob_b (congrArg (!·) h2) (ob_b (congrArg (!·) h2) (ob_b (congrArg (!·) h2) (ob_b (congrArg (!·) h2) (ob_b (rfl : true = true) (ob_b (rfl : true = true) (ob_b (rfl : true = true) (ob_b (rfl : true = true) (ob_b (rfl : true = true) (ob_b (rfl : true = true) (ob_b (rfl : true = true) ob)))))))))))))))) (by kernel_rfl)
  · rw [if_neg h1] at h
    replace h1 := Bool.eq_false_iff.2 h1
    by_cases h13 : (a1 != 2) = true
    · rw [if_pos h13] at h
      by_cases h14 : (a2.toList == (ByteArray.mk #[]).toList) = true
      · rw [if_pos h14] at h
        by_cases h15 : (a1 != 3) = true
        · rw [if_pos h15] at h
          by_cases h16 : (decide ((a3.length : Int) > 0)) = true
          · rw [if_pos h16] at h
            rw [← Option.some.inj h]
            exact run_path Tryd.func73 (ob_b h1 (ob_b h1 (ob_b h1 (ob_b (rfl : false = false) (ob_b (rfl : false = false) (ob_b (rfl : false = false) (ob_b (rfl : false = false) (ob_b h13 (ob_b h13 (ob_b h13 (ob_b (rfl : false = false) (ob_b h13 (ob_b (rfl : false = false) (ob_b (congrArg (!·) h14) (ob_b (congrArg (!·) h14) (ob_b (congrArg (!·) h14) (ob_b (congrArg (!·) h14) (ob_b h15 (ob_b h15 (ob_b h15 (ob_v (len_ts GStep.ts_map (l := a3)) (ob_b h15 (ob_b (congrArg (!·) h14) (ob_b h15 (ob_b (congrArg (!·) h14) (ob_b h16 ob)))))))))))))))))))))))))) (by kernel_rfl)
          · rw [if_neg h16] at h
            replace h16 := Bool.eq_false_iff.2 h16
            obtain ⟨a11, rfl⟩ : ∃ z_, z_ = r := ⟨_, rfl⟩
            have h17 := h
            exact run_path Tryd.func73 (ob_b h1 (ob_b h1 (ob_b h1 (ob_b (rfl : false = false) (ob_b (rfl : false = false) (ob_b (rfl : false = false) (ob_b (rfl : false = false) (ob_b h13 (ob_b h13 (ob_b h13 (ob_b (rfl : false = false) (ob_b h13 (ob_b (rfl : false = false) (ob_b (congrArg (!·) h14) (ob_b (congrArg (!·) h14) (ob_b (congrArg (!·) h14) (ob_b (congrArg (!·) h14) (ob_b h15 (ob_b h15 (ob_b h15 (ob_v (len_ts GStep.ts_map (l := a3)) (ob_b h15 (ob_b (congrArg (!·) h14) (ob_b h15 (ob_b (congrArg (!·) h14) (ob_b h16 (ob_j (plan_by_j1.ok ht n _ _ _ _ _ _ h17) ob))))))))))))))))))))))))))) (by kernel_rfl)
        · rw [if_neg h15] at h
          replace h15 := Bool.eq_false_iff.2 h15
          obtain ⟨a12, rfl⟩ : ∃ z_, z_ = r := ⟨_, rfl⟩
          have h18 := h
          exact run_path Tryd.func73 (ob_b h1 (ob_b h1 (ob_b h1 (ob_b (rfl : false = false) (ob_b (rfl : false = false) (ob_b (rfl : false = false) (ob_b (rfl : false = false) (ob_b h13 (ob_b h13 (ob_b h13 (ob_b (rfl : false = false) (ob_b h13 (ob_b (rfl : false = false) (ob_b (congrArg (!·) h14) (ob_b (congrArg (!·) h14) (ob_b (congrArg (!·) h14) (ob_b (congrArg (!·) h14) (ob_b h15 (ob_b h15 (ob_b h15 (ob_b h15 (ob_b (congrArg (!·) h14) (ob_b h15 (ob_b (congrArg (!·) h14) (ob_b (rfl : false = false) (ob_j (plan_by_j1.ok ht n _ _ _ _ _ _ h18) ob)))))))))))))))))))))))))) (by kernel_rfl)
      · rw [if_neg h14] at h
        replace h14 := Bool.eq_false_iff.2 h14
        rw [← Option.some.inj h]
        exact run_path Tryd.func73 (ob_b h1 (ob_b h1 (ob_b h1 (ob_b (rfl : false = false) (ob_b (rfl : false = false) (ob_b (rfl : false = false) (ob_b (rfl : false = false) (ob_b h13 (ob_b h13 (ob_b h13 (ob_b (rfl : false = false) (ob_b h13 (ob_b (rfl : false = false) (ob_b (congrArg (!·) h14) (ob_b (congrArg (!·) h14) (ob_b (congrArg (!·) h14) (ob_b (congrArg (!·) h14) (ob_b (congrArg (!·) h14) (ob_b (congrArg (!·) h14) (ob_b (rfl : true = true) ob)))))))))))))))))))) (by kernel_rfl)
    · rw [if_neg h13] at h
      replace h13 := Bool.eq_false_iff.2 h13
      by_cases h19 : (a1 != 3) = true
      · rw [if_pos h19] at h
        by_cases h20 : (decide ((a3.length : Int) > 0)) = true
        · rw [if_pos h20] at h
          rw [← Option.some.inj h]
          exact run_path Tryd.func73 (ob_b h1 (ob_b h1 (ob_b h1 (ob_b (rfl : false = false) (ob_b (rfl : false = false) (ob_b (rfl : false = false) (ob_b (rfl : false = false) (ob_b h13 (ob_b h13 (ob_b h13 (ob_b (rfl : false = false) (ob_b h13 (ob_b (rfl : false = false) (ob_b (rfl : false = false) (ob_b (rfl : false = false) (ob_b (rfl : false = false) (ob_b (rfl : false = false) (ob_b h19 (ob_b h19 (ob_b h19 (ob_v (len_ts GStep.ts_map (l := a3)) (ob_b h19 (ob_b (rfl : false = false) (ob_b h19 (ob_b (rfl : false = false) (ob_b h20 ob)))))))))))))))))))))))))) (by kernel_rfl)
        · rw [if_neg h20] at h
          replace h20 := Bool.eq_false_iff.2 h20
          obtain ⟨a13, rfl⟩ : ∃ z_, z_ = r := ⟨_, rfl⟩
          have h21 := h
          exact run_path Tryd.func73 (ob_b h1 (ob_b h1 (ob_b h1 (ob_b (rfl : false = false) (ob_b (rfl : false = false) (ob_b (rfl : false = false) (ob_b (rfl : false = false) (ob_b h13 (ob_b h13 (ob_b h13 (ob_b (rfl : false = false) (ob_b h13 (ob_b (rfl : false = false) (ob_b (rfl : false = false) (ob_b (rfl : false = false) (ob_b (rfl : false = false) (ob_b (rfl : false = false) (ob_b h19 (ob_b h19 (ob_b h19 (ob_v (len_ts GStep.ts_map (l := a3)) (ob_b h19 (ob_b (rfl : false = false) (ob_b h19 (ob_b (rfl : false = false) (ob_b h20 (ob_j (plan_by_j1.ok ht n _ _ _ _ _ _ h21) ob))))))))))))))))))))))))))) (by kernel_rfl)
      · rw [if_neg h19] at h
        replace h19 := Bool.eq_false_iff.2 h19
        obtain ⟨a14, rfl⟩ : ∃ z_, z_ = r := ⟨_, rfl⟩
        have h22 := h
        exact run_path Tryd.func73 (ob_b h1 (ob_b h1 (ob_b h1 (ob_b (rfl : false = false) (ob_b (rfl : false = false) (ob_b (rfl : false = false) (ob_b (rfl : false = false) (ob_b h13 (ob_b h13 (ob_b h13 (ob_b (rfl : false = false) (ob_b h13 (ob_b (rfl : false = false) (ob_b (rfl : false = false) (ob_b (rfl : false = false) (ob_b (rfl : false = false) (ob_b (rfl : false = false) (ob_b h19 (ob_b h19 (ob_b h19 (ob_b h19 (ob_b (rfl : false = false) (ob_b h19 (ob_b (rfl : false = false) (ob_b (rfl : false = false) (ob_j (plan_by_j1.ok ht n _ _ _ _ _ _ h22) ob)))))))))))))))))))))))))) (by kernel_rfl)
theorem slices_IndexFunc_plan_step_1_l1.okL (ht : TabOk t call) (n : Nat) : ∀ (k : Nat) (a1 : List ByteArray) (a2 a3 : Int) (r : _), slices_IndexFunc_plan_step_1_l1 t n k a1 a2 a3 = some r → loopN (exec (env Tryd.prog 78 Tryd.f78 call) n (sub [1, 0, 1, 0, 0] (bodyOf Tryd.f78))) k (mkSt 19 19 [(0, (.t (.sl false 1 (texts a1)))), (1, (.fn 64 [])), (7, (.t (.v (.int .i64 a2)))), (8, (.t (.v (.int .i64 a3))))] []) = some (slices_IndexFunc_plan_step_1_l1.to r)
  | 0, a1, a2, a3, r, h => by rw [slices_IndexFunc_plan_step_1_l1] at h; cases h
  | k + 1, a1, a2, a3, r, h => by
    rw [slices_IndexFunc_plan_step_1_l1] at h
    by_cases h1 : (decide (a3 < a2)) = true
    · rw [if_pos h1] at h
      by_cases h2 : (decide (0 ≤ (a3 : Int))) = true
      case neg => rw [if_neg h2] at h; cases h
      rw [if_pos h2] at h
      rcases h3 : a1[(a3 : Int).toNat]? with _ | a4
      · rw [h3] at h; cases h
      rw [h3] at h
      dsimp only at h
      rcases h4 : t.plan_step_1 a4 with _ | a5
      · rw [h4] at h; cases h
      rw [h4] at h
      dsimp only at h
      by_cases h5 : a5 = true
      · rw [if_pos h5] at h
        rw [← Option.some.inj h]
        exact loop_out (path (ob_b h1 (ob_n h2 (ob_t (look_ts texts_map h3) (ob_c (ht.plan_step_1 _ _ h4) (ob_b h5 ob))))) (by kernel_rfl)) (fun h => by cases h)
      · rw [if_neg h5] at h
        replace h5 := Bool.eq_false_iff.2 h5
        exact loop_more (path (ob_b h1 (ob_n h2 (ob_t (look_ts texts_map h3) (ob_c (ht.plan_step_1 _ _ h4) (ob_b h5 ob))))) (by kernel_rfl)) (slices_IndexFunc_plan_step_1_l1.okL ht n k _ _ _ _ h)
    · rw [if_neg h1] at h
      replace h1 := Bool.eq_false_iff.2 h1
      rw [← Option.some.inj h]
      exact loop_out (path (ob_b h1 ob) (by kernel_rfl)) (fun h => by cases h)
theorem slices_IndexFunc_plan_step_1_l1.ok (ht : TabOk t call) (n : Nat) (a1 : List ByteArray) (a2 a3 : Int) (r : _) (h : slices_IndexFunc_plan_step_1_l1 t n n a1 a2 a3 = some r) : exec (env Tryd.prog 78 Tryd.f78 call) n (sub [1, 0, 1, 0] (bodyOf Tryd.f78)) (mkSt 19 19 [(0, (.t (.sl false 1 (texts a1)))), (1, (.fn 64 [])), (7, (.t (.v (.int .i64 a2)))), (8, (.t (.v (.int .i64 a3))))] []) = some (slices_IndexFunc_plan_step_1_l1.to r) := by
  have e1 : sub [1, 0, 1, 0] (bodyOf Tryd.f78) = .loop (sub [1, 0, 1, 0, 0] (bodyOf Tryd.f78)) := by kernel_rfl
  rw [e1, exec]
  exact slices_IndexFunc_plan_step_1_l1.okL ht n n a1 a2 a3 r h
theorem slices_IndexFunc_plan_step_1.ok {n : Nat} {t : Tab} (ht : TabOk t (run Tryd.prog own kp X n)) : ∀ (p1 : List ByteArray) r, slices_IndexFunc_plan_step_1 t n p1 = some r → run Tryd.prog own kp X (n + 1) 78 [(.t (.sl false 1 (texts p1))), (.fn 64 [])] [] = some ((.t (.v (.int .i64 r))), []) := by
  intro p1 r h
  obtain ⟨a1, rfl⟩ : ∃ z_, z_ = p1 := ⟨_, rfl⟩
  rw [slices_IndexFunc_plan_step_1] at h
  rcases h1 : slices_IndexFunc_plan_step_1_l1 t n n a1 (a1.length : Int) 0 with _ | q_
  · rw [h1] at h; cases h
  rw [h1] at h
  rcases q_ with a2 | ⟨a3, a4, a5, a6⟩
  · dsimp only at h
    rw [← Option.some.inj h]
    exact run_path Tryd.func78 (ob_v (len_ts texts_map (l := a1)) (ob_k (slices_IndexFunc_plan_step_1_l1.ok ht n _ _ _ _ h1) ob)) (by kernel_rfl)
  · dsimp only at h
    rw [← Option.some.inj h]
    exact run_path Tryd.func78 (ob_v (len_ts texts_map (l := a1)) (ob_k (slices_IndexFunc_plan_step_1_l1.ok ht n _ _ _ _ h1) ob)) (by kernel_rfl)
theorem value_plain_l4.okL (ht : TabOk t call) (n : Nat) : ∀ (k : Nat) (a1 : Int) (a2 : List GValue) (a3 a4 a5 a6 : Int) (a7 : ByteArray) (a8 a9 : List GValue) (r : _), value_plain_l4 t n k a1 a2 a3 a4 a5 a6 a7 a8 a9 = some r → loopN (exec (env Tryd.prog 81 Tryd.f81 call) n (sub [1, 1, 1, 1, 1, 1, 0, 1, 0, 0] (bodyOf Tryd.f81))) k (mkSt 147 147 [(1, (.t (.v (.int .i64 a1)))), (2, (.ptr 2 0 [] 0)), (109, (.t (.sl false 5 (GValue.ts a2)))), (110, (.t (.v (.int .i64 a3)))), (111, (.t (.v (.int .i64 a4))))] [(2, (.t (.st [(.v (.int .i64 a5)), (.v (.int .i64 a6)), (.v (.string a7)), (.sl false 5 (GValue.ts a8)), (.sl false 5 (GValue.ts a9))])))]) = some (value_plain_l4.to r)
  | 0, a1, a2, a3, a4, a5, a6, a7, a8, a9, r, h => by rw [value_plain_l4] at h; cases h
  | k + 1, a1, a2, a3, a4, a5, a6, a7, a8, a9, r, h => by
    rw [value_plain_l4] at h
    by_cases h1 : (decide (a4 < a3)) = true
    · rw [if_pos h1] at h
      by_cases h2 : (decide (0 ≤ (a4 : Int))) = true
      case neg => rw [if_neg h2] at h; cases h
      rw [if_pos h2] at h
      rcases h3 : a2[(a4 : Int).toNat]? with _ | ⟨a10, a11, a12, a13, a14⟩
      · rw [h3] at h; cases h
      rw [h3] at h
      dsimp only at h
      rcases h4 : t.value_plain (GValue.mk a10 a11 a12 a13 a14) (IntKind.wrap .i64 (a1 + 1)) with _ | a15
      · rw [h4] at h; cases h
      rw [h4] at h
      dsimp only at h
      by_cases h5 : a15 = true
      · rw [if_pos h5] at h
        by_cases h6 : (a5 == 7) = true
        · rw [if_pos h6] at h
          by_cases h7 : (decide (a4 > 0)) = true
          · rw [if_pos h7] at h
            by_cases h8 : (decide (a4 < (a8.length : Int))) = true
            · rw [if_pos h8] at h
              by_cases h9 : (decide (0 ≤ ((IntKind.wrap .i64 (a4 - 1)) : Int))) = true
              case neg => rw [if_neg h9] at h; cases h
              rw [if_pos h9] at h
              rcases h10 : a8[((IntKind.wrap .i64 (a4 - 1)) : Int).toNat]? with _ | ⟨a16, a17, a18, a19, a20⟩
              · rw [h10] at h; cases h
              rw [h10] at h
              dsimp only at h
              rcases h11 : t.value_Cmp (GValue.mk a16 a17 a18 a19 a20) (GValue.mk a10 a11 a12 a13 a14) with _ | a21
              · rw [h11] at h; cases h
              rw [h11] at h
              dsimp only at h
              by_cases h12 : (decide (a21 ≥ 0)) = true
              · rw [if_pos h12] at h
                rw [← Option.some.inj h]
                exact loop_out (path (ob_b h1 (ob_n h2 (ob_t (look_ts GValue.ts_map h3) (ob_c (ht.value_plain _ _ _ h4) (ob_b (congrArg (!·) h5) (ob_b h6 (ob_b h6 (ob_b h6 (ob_b h7 (ob_b h7 (ob_b h7 (ob_b h7 (ob_v (len_ts GValue.ts_map (l := a8)) (ob_b h7 (ob_b h7 (ob_b h8 (ob_b h8 (ob_b h8 (ob_b h8 (ob_b h8 (ob_n h9 (ob_t (look_ts GValue.ts_map h10) (ob_b h8 (ob_b h8 (ob_b h8 (ob_c (ht.value_Cmp _ _ _ h11) (ob_b h8 (ob_b h8 (ob_b h12 ob))))))))))))))))))))))))))))) (by kernel_rfl)) (fun h => by cases h)
              · rw [if_neg h12] at h
                replace h12 := Bool.eq_false_iff.2 h12
                exact loop_more (path (ob_b h1 (ob_n h2 (ob_t (look_ts GValue.ts_map h3) (ob_c (ht.value_plain _ _ _ h4) (ob_b (congrArg (!·) h5) (ob_b h6 (ob_b h6 (ob_b h6 (ob_b h7 (ob_b h7 (ob_b h7 (ob_b h7 (ob_v (len_ts GValue.ts_map (l := a8)) (ob_b h7 (ob_b h7 (ob_b h8 (ob_b h8 (ob_b h8 (ob_b h8 (ob_b h8 (ob_n h9 (ob_t (look_ts GValue.ts_map h10) (ob_b h8 (ob_b h8 (ob_b h8 (ob_c (ht.value_Cmp _ _ _ h11) (ob_b h8 (ob_b h8 (ob_b h12 ob))))))))))))))))))))))))))))) (by kernel_rfl)) (value_plain_l4.okL ht n k _ _ _ _ _ _ _ _ _ _ h)
            · rw [if_neg h8] at h
              replace h8 := Bool.eq_false_iff.2 h8
              exact loop_more (path (ob_b h1 (ob_n h2 (ob_t (look_ts GValue.ts_map h3) (ob_c (ht.value_plain _ _ _ h4) (ob_b (congrArg (!·) h5) (ob_b h6 (ob_b h6 (ob_b h6 (ob_b h7 (ob_b h7 (ob_b h7 (ob_b h7 (ob_v (len_ts GValue.ts_map (l := a8)) (ob_b h7 (ob_b h7 (ob_b h8 (ob_b h8 (ob_b h8 (ob_b h8 (ob_b h8 (ob_b h8 (ob_b h8 (ob_b h8 (ob_b h8 (ob_b h8 (ob_b (rfl : false = false) ob)))))))))))))))))))))))))) (by kernel_rfl)) (value_plain_l4.okL ht n k _ _ _ _ _ _ _ _ _ _ h)
          · rw [if_neg h7] at h
            replace h7 := Bool.eq_false_iff.2 h7
            exact loop_more (path (ob_b h1 (ob_n h2 (ob_t (look_ts GValue.ts_map h3) (ob_c (ht.value_plain _ _ _ h4) (ob_b (congrArg (!·) h5) (ob_b h6 (ob_b h6 (ob_b h6 (ob_b h7 (ob_b h7 (ob_b h7 (ob_b h7 (ob_b h7 (ob_b h7 (ob_b (rfl : false = false) (ob_b (rfl : false = false) (ob_b (rfl : false = false) (ob_b (rfl : false = false) (ob_b (rfl : false = false) (ob_b (rfl : false = false) (ob_b (rfl : false = false) (ob_b (rfl : false = false) (ob_b (rfl : false = false) (ob_b (rfl : false = false) (ob_b (rfl : false = false) ob))))))))))))))))))))))))) (by kernel_rfl)) (value_plain_l4.okL ht n k _ _ _ _ _ _ _ _ _ _ h)
        · rw [if_neg h6] at h
          replace h6 := Bool.eq_false_iff.2 h6
          exact loop_more (path (ob_b h1 (ob_n h2 (ob_t (look_ts GValue.ts_map h3) (ob_c (ht.value_plain _ _ _ h4) (ob_b (congrArg (!·) h5) (ob_b h6 (ob_b h6 (ob_b h6 (ob_b (rfl : false = false) (ob_b (rfl : false = false) (ob_b (rfl : false = false) (ob_b (rfl : false = false) (ob_b (rfl : false = false) (ob_b (rfl : false = false) (ob_b (rfl : false = false) (ob_b (rfl : false = false) (ob_b (rfl : false = false) (ob_b (rfl : false = false) (ob_b (rfl : false = false) (ob_b (rfl : false = false) (ob_b (rfl : false = false) (ob_b (rfl : false = false) (ob_b (rfl : false = false) (ob_b (rfl : false = false) (ob_b (rfl : false = false) ob))))))))))))))))))))))))) (by kernel_rfl)) (value_plain_l4.okL ht n k _ _ _ _ _ _ _ _ _ _ h)
      · rw [if_neg h5] at h
        replace h5 := Bool.eq_false_iff.2 h5
        rw [← Option.some.inj h]
        exact loop_out (path (ob_b h1 (ob_n h2 (ob_t (look_ts GValue.ts_map h3) (ob_c (ht.value_plain _ _ _ h4) (ob_b (congrArg (!·) h5) ob))))) (by kernel_rfl)) (fun h => by cases h)
    · rw [if_neg h1] at h
      replace h1 := Bool.eq_false_iff.2 h1
      rw [← Option.some.inj h]
      exact loop_out (path (ob_b h1 ob) (by kernel_rfl)) (fun h => by cases h)
theorem value_plain_l4.ok (ht : TabOk t call) (n : Nat) (a1 : Int) (a2 : List GValue) (a3 a4 a5 a6 : Int) (a7 : ByteArray) (a8 a9 : List GValue) (r : _) (h : value_plain_l4 t n n a1 a2 a3 a4 a5 a6 a7 a8 a9 = some r) : exec (env Tryd.prog 81 Tryd.f81 call) n (sub [1, 1, 1, 1, 1, 1, 0, 1, 0] (bodyOf Tryd.f81)) (mkSt 147 147 [(1, (.t (.v (.int .i64 a1)))), (2, (.ptr 2 0 [] 0)), (109, (.t (.sl false 5 (GValue.ts a2)))), (110, (.t (.v (.int .i64 a3)))), (111, (.t (.v (.int .i64 a4))))] [(2, (.t (.st [(.v (.int .i64 a5)), (.v (.int .i64 a6)), (.v (.string a7)), (.sl false 5 (GValue.ts a8)), (.sl false 5 (GValue.ts a9))])))]) = some (value_plain_l4.to r) := by
  have e1 : sub [1, 1, 1, 1, 1, 1, 0, 1, 0] (bodyOf Tryd.f81) = .loop (sub [1, 1, 1, 1, 1, 1, 0, 1, 0, 0] (bodyOf Tryd.f81)) := by kernel_rfl
  rw [e1, exec]
  exact value_plain_l4.okL ht n n a1 a2 a3 a4 a5 a6 a7 a8 a9 r h
theorem value_plain_j3.ok (ht : TabOk t call) (n : Nat) (a1 a2 a3 : Int) (a4 : ByteArray) (a5 a6 : List GValue) (r : _) (h : value_plain_j3 t n a1 a2 a3 a4 a5 a6 = some r) : exec (env Tryd.prog 81 Tryd.f81 call) n (sub [1, 1, 1, 1, 1, 1] (bodyOf Tryd.f81)) (mkSt 147 147 [(1, (.t (.v (.int .i64 a1)))), (2, (.ptr 2 0 [] 0))] [(2, (.t (.st [(.v (.int .i64 a2)), (.v (.int .i64 a3)), (.v (.string a4)), (.sl false 5 (GValue.ts a5)), (.sl false 5 (GValue.ts a6))])))]) = some (value_plain_j3.to r) := by
  rw [value_plain_j3] at h
  rcases h1 : t.slices_Concat_Value ([a5, a6] : List (List GValue)) with _ | a7
  · rw [h1] at h; cases h
  rw [h1] at h
  dsimp only at h
  rcases h2 : value_plain_l4 t n n a1 a7 (a7.length : Int) 0 a2 a3 a4 a5 a6 with _ | q_
  · rw [h2] at h; cases h
  rw [h2] at h
  rcases q_ with a8 | ⟨a9, a10, a11, a12, a13, a14, a15, a16, a17, a18⟩
  · dsimp only at h
    rw [← Option.some.inj h]
    exact path (ob_c (ht.slices_Concat_Value _ _ h1) (ob_v (len_ts GValue.ts_map (l := a7)) (ob_k (value_plain_l4.ok ht n _ _ _ _ _ _ _ _ _ _ h2) ob))) (by kernel_rfl)
  · dsimp only at h
    rw [← Option.some.inj h]
    exact path (ob_c (ht.slices_Concat_Value _ _ h1) (ob_v (len_ts GValue.ts_map (l := a7)) (ob_k (value_plain_l4.ok ht n _ _ _ _ _ _ _ _ _ _ h2) ob))) (by kernel_rfl)
theorem value_plain_j2.ok (ht : TabOk t call) (n : Nat) (a1 a2 a3 : Int) (a4 : ByteArray) (a5 a6 : List GValue) (r : _) (h : value_plain_j2 t n a1 a2 a3 a4 a5 a6 = some r) : exec (env Tryd.prog 81 Tryd.f81 call) n (sub [1, 1, 1, 1, 1] (bodyOf Tryd.f81)) (mkSt 147 147 [(1, (.t (.v (.int .i64 a1)))), (2, (.ptr 2 0 [] 0))] [(2, (.t (.st [(.v (.int .i64 a2)), (.v (.int .i64 a3)), (.v (.string a4)), (.sl false 5 (GValue.ts a5)), (.sl false 5 (GValue.ts a6))])))]) = some (value_plain_j2.to r) := by
  rw [value_plain_j2] at h
  by_cases h1 : (decide ((a5.length : Int) > 1000)) = true
  · rw [if_pos h1] at h
    rw [← Option.some.inj h]
    exact path (ob_v (len_ts GValue.ts_map (l := a5)) (ob_b h1 (ob_b h1 (ob_b h1 (ob_b h1 (ob_b h1 (ob_b h1 (ob_b (rfl : true = true) (ob_b (rfl : true = true) (ob_b (rfl : true = true) (ob_b (rfl : true = true) (ob_b (rfl : true = true) (ob_b (rfl : true = true) (ob_b (rfl : true = true) ob)))))))))))))) (by kernel_rfl)
  · rw [if_neg h1] at h
    replace h1 := Bool.eq_false_iff.2 h1
    by_cases h2 : (a2 == 7) = true
    · rw [if_pos h2] at h
      by_cases h3 : ((a6.length : Int) != (a5.length : Int)) = true
      · rw [if_pos h3] at h
        rw [← Option.some.inj h]
        exact path (ob_v (len_ts GValue.ts_map (l := a5)) (ob_b h1 (ob_b h1 (ob_b h1 (ob_b h1 (ob_b h2 (ob_b h2 (ob_b h2 (ob_v (len_ts GValue.ts_map (l := a6)) (ob_b h2 (ob_b h2 (ob_b h2 (ob_v (len_ts GValue.ts_map (l := a5)) (ob_b h2 (ob_b h1 (ob_b h2 (ob_b h1 (ob_b h3 (ob_b h3 (ob_b h3 (ob_b h3 (ob_b h3 (ob_b h3 (ob_b (rfl : true = true) ob)))))))))))))))))))))))) (by kernel_rfl)
      · rw [if_neg h3] at h
        replace h3 := Bool.eq_false_iff.2 h3
        by_cases h4 : (a2 != 7) = true
        · rw [if_pos h4] at h
          by_cases h5 : (decide ((a6.length : Int) > 0)) = true
          · rw [if_pos h5] at h
            rw [← Option.some.inj h]
            exact path (ob_v (len_ts GValue.ts_map (l := a5)) (ob_b h1 (ob_b h1 (ob_b h1 (ob_b h1 (ob_b h2 (ob_b h2 (ob_b h2 (ob_v (len_ts GValue.ts_map (l := a6)) (ob_b h2 (ob_b h2 (ob_b h2 (ob_v (len_ts GValue.ts_map (l := a5)) (ob_b h2 (ob_b h1 (ob_b h2 (ob_b h1 (ob_b h3 (ob_b h3 (ob_b h3 (ob_b h3 (ob_b h4 (ob_b h4 (ob_b h4 (ob_v (len_ts GValue.ts_map (l := a6)) (ob_b h4 (ob_b h3 (ob_b h4 (ob_b h3 (ob_b h5 ob)))))))))))))))))))))))))))))) (by kernel_rfl)
          · rw [if_neg h5] at h
            replace h5 := Bool.eq_false_iff.2 h5
            obtain ⟨a7, rfl⟩ : ∃ z_, z_ = r := ⟨_, rfl⟩
            have h6 := h
            exact path (ob_v (len_ts GValue.ts_map (l := a5)) (ob_b h1 (ob_b h1 (ob_b h1 (ob_b h1 (ob_b h2 (ob_b h2 (ob_b h2 (ob_v (len_ts GValue.ts_map (l := a6)) (ob_b h2 (ob_b h2 (ob_b h2 (ob_v (len_ts GValue.ts_map (l := a5)) (ob_b h2 (ob_b h1 (ob_b h2 (ob_b h1 (ob_b h3 (ob_b h3 (ob_b h3 (ob_b h3 (ob_b h4 (ob_b h4 (ob_b h4 (ob_v (len_ts GValue.ts_map (l := a6)) (ob_b h4 (ob_b h3 (ob_b h4 (ob_b h3 (ob_b h5 (ob_j (value_plain_j3.ok ht n _ _ _ _ _ _ _ h6) ob))))))))))))))))))))))))))))))) (by kernel_rfl)
        · rw [if_neg h4] at h
          replace h4 := Bool.eq_false_iff.2 h4
          obtain ⟨a8, rfl⟩ : ∃ z_, z_ = r := ⟨_, rfl⟩
          have h7 := h
          exact path (ob_v (len_ts GValue.ts_map (l := a5)) (ob_b h1 (ob_b h1 (ob_b h1 (ob_b h1 (ob_b h2 (ob_b h2 (ob_b h2 (ob_v (len_ts GValue.ts_map (l := a6)) (ob_b h2 (ob_b h2 (ob_b h2 (ob_v (len_ts GValue.ts_map (l := a5)) (ob_b h2 (ob_b h1 (ob_b h2 (ob_b h1 (ob_b h3 (ob_b h3 (ob_b h3 (ob_b h3 (ob_b h4 (ob_b h4 (ob_b h4 (ob_b h4 (ob_b h3 (ob_b h4 (ob_b h3 (ob_b (rfl : false = false) (ob_j (value_plain_j3.ok ht n _ _ _ _ _ _ _ h7) ob)))))))))))))))))))))))))))))) (by kernel_rfl)
    · rw [if_neg h2] at h
      replace h2 := Bool.eq_false_iff.2 h2
      by_cases h8 : (a2 != 7) = true
      · rw [if_pos h8] at h
        by_cases h9 : (decide ((a6.length : Int) > 0)) = true
        · rw [if_pos h9] at h
          rw [← Option.some.inj h]
          exact path (ob_v (len_ts GValue.ts_map (l := a5)) (ob_b h1 (ob_b h1 (ob_b h1 (ob_b h1 (ob_b h2 (ob_b h2 (ob_b h2 (ob_b h2 (ob_b h2 (ob_b h2 (ob_b h2 (ob_b h1 (ob_b h2 (ob_b h1 (ob_b (rfl : false = false) (ob_b (rfl : false = false) (ob_b (rfl : false = false) (ob_b (rfl : false = false) (ob_b h8 (ob_b h8 (ob_b h8 (ob_v (len_ts GValue.ts_map (l := a6)) (ob_b h8 (ob_b (rfl : false = false) (ob_b h8 (ob_b (rfl : false = false) (ob_b h9 ob)))))))))))))))))))))))))))) (by kernel_rfl)
        · rw [if_neg h9] at h
          replace h9 := Bool.eq_false_iff.2 h9
          obtain ⟨a9, rfl⟩ : ∃ z_, z_ = r := ⟨_, rfl⟩
          have h10 := h
          exact path (ob_v (len_ts GValue.ts_map (l := a5)) (ob_b h1 (ob_b h1 (ob_b h1 (ob_b h1 (ob_b h2 (ob_b h2 (ob_b h2 (ob_b h2 (ob_b h2 (ob_b h2 (ob_b h2 (ob_b h1 (ob_b h2 (ob_b h1 (ob_b (rfl : false = false) (ob_b (rfl : false = false) (ob_b (rfl : false = false) (ob_b (rfl : false = false) (ob_b h8 (ob_b h8 (ob_b h8 (ob_v (len_ts GValue.ts_map (l := a6)) (ob_b h8 (ob_b (rfl : false = false) (ob_b h8 (ob_b (rfl : false = false) (ob_b h9 (ob_j (value_plain_j3.ok ht n _ _ _ _ _ _ _ h10) ob))))))))))))))))))))))))))))) (by kernel_rfl)
      · rw [if_neg h8] at h
        replace h8 := Bool.eq_false_iff.2 h8
        obtain ⟨a10, rfl⟩ : ∃ z_, z_ = r := ⟨_, rfl⟩
        have h11 := h
        exact path (ob_v (len_ts GValue.ts_map (l := a5)) (ob_b h1 (ob_b h1 (ob_b h1 (ob_b h1 (ob_b h2 (ob_b h2 (ob_b h2 (ob_b h2 (ob_b h2 (ob_b h2 (ob_b h2 (ob_b h1 (ob_b h2 (ob_b h1 (ob_b (rfl : false = false) (ob_b (rfl : false = false) (ob_b (rfl : false = false) (ob_b (rfl : false = false) (ob_b h8 (ob_b h8 (ob_b h8 (ob_b h8 (ob_b (rfl : false = false) (ob_b h8 (ob_b (rfl : false = false) (ob_b (rfl : false = false) (ob_j (value_plain_j3.ok ht n _ _ _ _ _ _ _ h11) ob)))))))))))))))))))))))))))) (by kernel_rfl)
theorem value_plain_j1.ok (ht : TabOk t call) (n : Nat) (a1 : Int) (a2 a3 : Bool) (a4 a5 : Int) (a6 : ByteArray) (a7 a8 : List GValue) (r : _) (h : value_plain_j1 t n a1 a2 a3 a4 a5 a6 a7 a8 = some r) : exec (env Tryd.prog 81 Tryd.f81 call) n (sub [1, 1, 1, 1] (bodyOf Tryd.f81)) (mkSt 147 147 [(1, (.t (.v (.int .i64 a1)))), (2, (.ptr 2 0 [] 0)), (5, (.t (.v (.bool a2)))), (6, (.t (.v (.bool a3))))] [(2, (.t (.st [(.v (.int .i64 a4)), (.v (.int .i64 a5)), (.v (.string a6)), (.sl false 5 (GValue.ts a7)), (.sl false 5 (GValue.ts a8))])))]) = some (value_plain_j1.to r) := by
  rw [value_plain_j1] at h
  by_cases h1 : a3 = true
  · rw [if_pos h1] at h
    by_cases h2 : (decide ((a6.size : Int) > 1000)) = true
    · rw [if_pos h2] at h
      rw [← Option.some.inj h]
      exact path (ob_b (congrArg (!·) h1) (ob_b (congrArg (!·) h1) (ob_b (congrArg (!·) h1) (ob_b (congrArg (!·) h1) (ob_b (rfl : false = false) (ob_b (rfl : false = false) (ob_b (rfl : false = false) (ob_b (rfl : false = false) (ob_b (rfl : false = false) (ob_b h2 (ob_b h2 (ob_b h2 (ob_b h2 (ob_b h2 (ob_b h2 (ob_b (rfl : true = true) (ob_b (rfl : true = true) (ob_b (rfl : true = true) (ob_b (rfl : true = true) (ob_b (rfl : true = true) (ob_b (rfl : true = true) ob))))))))))))))))))))) (by kernel_rfl)
    · rw [if_neg h2] at h
      replace h2 := Bool.eq_false_iff.2 h2
      by_cases h3 : (a5 != 0) = true
      · rw [if_pos h3] at h
        rw [← Option.some.inj h]
        exact path (ob_b (congrArg (!·) h1) (ob_b (congrArg (!·) h1) (ob_b (congrArg (!·) h1) (ob_b (congrArg (!·) h1) (ob_b (rfl : false = false) (ob_b (rfl : false = false) (ob_b (rfl : false = false) (ob_b (rfl : false = false) (ob_b (rfl : false = false) (ob_b h2 (ob_b h2 (ob_b h1 (ob_b h2 (ob_b h1 (ob_b h2 (ob_b (rfl : true = true) (ob_b (rfl : true = true) (ob_b (rfl : true = true) (ob_b h2 (ob_b (rfl : true = true) (ob_b h2 (ob_b h3 (ob_b h3 (ob_b h3 (ob_b h3 (ob_b h3 (ob_b (rfl : true = true) ob))))))))))))))))))))))))))) (by kernel_rfl)
      · rw [if_neg h3] at h
        replace h3 := Bool.eq_false_iff.2 h3
        by_cases h4 : a2 = true
        · rw [if_pos h4] at h
          obtain ⟨a9, rfl⟩ : ∃ z_, z_ = r := ⟨_, rfl⟩
          have h5 := h
          exact path (ob_b (congrArg (!·) h1) (ob_b (congrArg (!·) h1) (ob_b (congrArg (!·) h1) (ob_b (congrArg (!·) h1) (ob_b (rfl : false = false) (ob_b (rfl : false = false) (ob_b (rfl : false = false) (ob_b (rfl : false = false) (ob_b (rfl : false = false) (ob_b h2 (ob_b h2 (ob_b h1 (ob_b h2 (ob_b h1 (ob_b h2 (ob_b (rfl : true = true) (ob_b (rfl : true = true) (ob_b (rfl : true = true) (ob_b h2 (ob_b (rfl : true = true) (ob_b h2 (ob_b h3 (ob_b h3 (ob_b h3 (ob_b (congrArg (!·) h4) (ob_b (congrArg (!·) h4) (ob_b (congrArg (!·) h4) (ob_b (congrArg (!·) h4) (ob_b (congrArg (!·) h4) (ob_b (congrArg (!·) h4) (ob_b (congrArg (!·) h4) (ob_b (congrArg (!·) h4) (ob_b h3 (ob_b (congrArg (!·) h4) (ob_b h3 (ob_b (rfl : false = false) (ob_j (value_plain_j2.ok ht n _ _ _ _ _ _ _ h5) ob))))))))))))))))))))))))))))))))))))) (by kernel_rfl)
        · rw [if_neg h4] at h
          replace h4 := Bool.eq_false_iff.2 h4
          by_cases h6 : (decide ((IntKind.wrap .i64 ((a7.length : Int) + (a8.length : Int))) > 0)) = true
          · rw [if_pos h6] at h
            rw [← Option.some.inj h]
            exact path (ob_b (congrArg (!·) h1) (ob_b (congrArg (!·) h1) (ob_b (congrArg (!·) h1) (ob_b (congrArg (!·) h1) (ob_b (rfl : false = false) (ob_b (rfl : false = false) (ob_b (rfl : false = false) (ob_b (rfl : false = false) (ob_b (rfl : false = false) (ob_b h2 (ob_b h2 (ob_b h1 (ob_b h2 (ob_b h1 (ob_b h2 (ob_b (rfl : true = true) (ob_b (rfl : true = true) (ob_b (rfl : true = true) (ob_b h2 (ob_b (rfl : true = true) (ob_b h2 (ob_b h3 (ob_b h3 (ob_b h3 (ob_b (congrArg (!·) h4) (ob_b (congrArg (!·) h4) (ob_b (congrArg (!·) h4) (ob_v (len_ts GValue.ts_map (l := a7)) (ob_b (congrArg (!·) h4) (ob_b (congrArg (!·) h4) (ob_b (congrArg (!·) h4) (ob_v (len_ts GValue.ts_map (l := a8)) (ob_b (congrArg (!·) h4) (ob_b (congrArg (!·) h4) (ob_b h3 (ob_b (congrArg (!·) h4) (ob_b h3 (ob_b h6 ob)))))))))))))))))))))))))))))))))))))) (by kernel_rfl)
          · rw [if_neg h6] at h
            replace h6 := Bool.eq_false_iff.2 h6
            obtain ⟨a10, rfl⟩ : ∃ z_, z_ = r := ⟨_, rfl⟩
            have h7 := h
            exact path (ob_b (congrArg (!·) h1) (ob_b (congrArg (!·) h1) (ob_b (congrArg (!·) h1) (ob_b (congrArg (!·) h1) (ob_b (rfl : false = false) (ob_b (rfl : false = false) (ob_b (rfl : false = false) (ob_b (rfl : false = false) (ob_b (rfl : false = false) (ob_b h2 (ob_b h2 (ob_b h1 (ob_b h2 (ob_b h1 (ob_b h2 (ob_b (rfl : true = true) (ob_b (rfl : true = true) (ob_b (rfl : true = true) (ob_b h2 (ob_b (rfl : true = true) (ob_b h2 (ob_b h3 (ob_b h3 (ob_b h3 (ob_b (congrArg (!·) h4) (ob_b (congrArg (!·) h4) (ob_b (congrArg (!·) h4) (ob_v (len_ts GValue.ts_map (l := a7)) (ob_b (congrArg (!·) h4) (ob_b (congrArg (!·) h4) (ob_b (congrArg (!·) h4) (ob_v (len_ts GValue.ts_map (l := a8)) (ob_b (congrArg (!·) h4) (ob_b (congrArg (!·) h4) (ob_b h3 (ob_b (congrArg (!·) h4) (ob_b h3 (ob_b h6 (ob_j (value_plain_j2.ok ht n _ _ _ _ _ _ _ h7) ob))))))))))))))))))))))))))))))))))))))) (by kernel_rfl)
  · rw [if_neg h1] at h
    replace h1 := Bool.eq_false_iff.2 h1
    by_cases h8 : (a6.toList == (ByteArray.mk #[]).toList) = true
    · rw [if_pos h8] at h
      by_cases h9 : (decide ((a6.size : Int) > 1000)) = true
      · rw [if_pos h9] at h
        rw [← Option.some.inj h]
        exact path (ob_b (congrArg (!·) h1) (ob_b (congrArg (!·) h1) (ob_b (congrArg (!·) h1) (ob_b (congrArg (!·) h1) (ob_b (congrArg (!·) h8) (ob_b (congrArg (!·) h8) (ob_b (congrArg (!·) h8) (ob_b (congrArg (!·) h8) (ob_b (congrArg (!·) h8) (ob_b h9 (ob_b h9 (ob_b h9 (ob_b h9 (ob_b h9 (ob_b h9 (ob_b (rfl : true = true) (ob_b (rfl : true = true) (ob_b (rfl : true = true) (ob_b (rfl : true = true) (ob_b (rfl : true = true) (ob_b (rfl : true = true) ob))))))))))))))))))))) (by kernel_rfl)
      · rw [if_neg h9] at h
        replace h9 := Bool.eq_false_iff.2 h9
        by_cases h10 : a2 = true
        · rw [if_pos h10] at h
          by_cases h11 : (a5 != 0) = true
          · rw [if_pos h11] at h
            rw [← Option.some.inj h]
            exact path (ob_b (congrArg (!·) h1) (ob_b (congrArg (!·) h1) (ob_b (congrArg (!·) h1) (ob_b (congrArg (!·) h1) (ob_b (congrArg (!·) h8) (ob_b (congrArg (!·) h8) (ob_b (congrArg (!·) h8) (ob_b (congrArg (!·) h8) (ob_b (congrArg (!·) h8) (ob_b h9 (ob_b h9 (ob_b h1 (ob_b h9 (ob_b h1 (ob_b h9 (ob_b h10 (ob_b h10 (ob_b h10 (ob_b h9 (ob_b h10 (ob_b h9 (ob_b h11 (ob_b h11 (ob_b h11 (ob_b h11 (ob_b h11 (ob_b (rfl : true = true) ob))))))))))))))))))))))))))) (by kernel_rfl)
          · rw [if_neg h11] at h
            replace h11 := Bool.eq_false_iff.2 h11
            obtain ⟨a11, rfl⟩ : ∃ z_, z_ = r := ⟨_, rfl⟩
            have h12 := h
            exact path (ob_b (congrArg (!·) h1) (ob_b (congrArg (!·) h1) (ob_b (congrArg (!·) h1) (ob_b (congrArg (!·) h1) (ob_b (congrArg (!·) h8) (ob_b (congrArg (!·) h8) (ob_b (congrArg (!·) h8) (ob_b (congrArg (!·) h8) (ob_b (congrArg (!·) h8) (ob_b h9 (ob_b h9 (ob_b h1 (ob_b h9 (ob_b h1 (ob_b h9 (ob_b h10 (ob_b h10 (ob_b h10 (ob_b h9 (ob_b h10 (ob_b h9 (ob_b h11 (ob_b h11 (ob_b h11 (ob_b (congrArg (!·) h10) (ob_b (congrArg (!·) h10) (ob_b (congrArg (!·) h10) (ob_b (congrArg (!·) h10) (ob_b (congrArg (!·) h10) (ob_b (congrArg (!·) h10) (ob_b (congrArg (!·) h10) (ob_b (congrArg (!·) h10) (ob_b h11 (ob_b (congrArg (!·) h10) (ob_b h11 (ob_b (rfl : false = false) (ob_j (value_plain_j2.ok ht n _ _ _ _ _ _ _ h12) ob))))))))))))))))))))))))))))))))))))) (by kernel_rfl)
        · rw [if_neg h10] at h
          replace h10 := Bool.eq_false_iff.2 h10
          by_cases h13 : (decide ((IntKind.wrap .i64 ((a7.length : Int) + (a8.length : Int))) > 0)) = true
          · rw [if_pos h13] at h
            rw [← Option.some.inj h]
            exact path (ob_b (congrArg (!·) h1) (ob_b (congrArg (!·) h1) (ob_b (congrArg (!·) h1) (ob_b (congrArg (!·) h1) (ob_b (congrArg (!·) h8) (ob_b (congrArg (!·) h8) (ob_b (congrArg (!·) h8) (ob_b (congrArg (!·) h8) (ob_b (congrArg (!·) h8) (ob_b h9 (ob_b h9 (ob_b h1 (ob_b h9 (ob_b h1 (ob_b h9 (ob_b h10 (ob_b h10 (ob_b h10 (ob_b h9 (ob_b h10 (ob_b h9 (ob_b (rfl : false = false) (ob_b (rfl : false = false) (ob_b (rfl : false = false) (ob_b (congrArg (!·) h10) (ob_b (congrArg (!·) h10) (ob_b (congrArg (!·) h10) (ob_v (len_ts GValue.ts_map (l := a7)) (ob_b (congrArg (!·) h10) (ob_b (congrArg (!·) h10) (ob_b (congrArg (!·) h10) (ob_v (len_ts GValue.ts_map (l := a8)) (ob_b (congrArg (!·) h10) (ob_b (congrArg (!·) h10) (ob_b (rfl : false = false) (ob_b (congrArg (!·) h10) (ob_b (rfl : false = false) (ob_b h13 ob)))))))))))))))))))))))))))))))))))))) (by kernel_rfl)
          · rw [if_neg h13] at h
            replace h13 := Bool.eq_false_iff.2 h13
            obtain ⟨a12, rfl⟩ : ∃ z_, z_ = r := ⟨_, rfl⟩
            have h14 := h
            exact path (ob_b (congrArg (!·) h1) (ob_b (congrArg (!·) h1) (ob_b (congrArg (!·) h1) (ob_b (congrArg (!·) h1) (ob_b (congrArg (!·) h8) (ob_b (congrArg (!·) h8) (ob_b (congrArg (!·) h8) (ob_b (congrArg (!·) h8) (ob_b (congrArg (!·) h8) (ob_b h9 (ob_b h9 (ob_b h1 (ob_b h9 (ob_b h1 (ob_b h9 (ob_b h10 (ob_b h10 (ob_b h10 (ob_b h9 (ob_b h10 (ob_b h9 (ob_b (rfl : false = false) (ob_b (rfl : false = false) (ob_b (rfl : false = false) (ob_b (congrArg (!·) h10) (ob_b (congrArg (!·) h10) (ob_b (congrArg (!·) h10) (ob_v (len_ts GValue.ts_map (l := a7)) (ob_b (congrArg (!·) h10) (ob_b (congrArg (!·) h10) (ob_b (congrArg (!·) h10) (ob_v (len_ts GValue.ts_map (l := a8)) (ob_b (congrArg (!·) h10) (ob_b (congrArg (!·) h10) (ob_b (rfl : false = false) (ob_b (congrArg (!·) h10) (ob_b (rfl : false = false) (ob_b h13 (ob_j (value_plain_j2.ok ht n _ _ _ _ _ _ _ h14) ob))))))))))))))))))))))))))))))))))))))) (by kernel_rfl)
    · rw [if_neg h8] at h
      replace h8 := Bool.eq_false_iff.2 h8
      rw [← Option.some.inj h]
      exact path (ob_b (congrArg (!·) h1) (ob_b (congrArg (!·) h1) (ob_b (congrArg (!·) h1) (ob_b (congrArg (!·) h1) (ob_b (congrArg (!·) h8) (ob_b (congrArg (!·) h8) (ob_b (congrArg (!·) h8) (ob_b (congrArg (!·) h8) (ob_b (congrArg (!·) h8) (ob_b (rfl : true = true) (ob_b (rfl : true = true) (ob_b (rfl : true = true) (ob_b (rfl : true = true) (ob_b (rfl : true = true) (ob_b (rfl : true = true) (ob_b (rfl : true = true) (ob_b (rfl : true = true) (ob_b (rfl : true = true) (ob_b (rfl : true = true) (ob_b (rfl : true = true) (ob_b (rfl : true = true) ob))))))))))))))))))))) (by kernel_rfl)
theorem value_plain_j5.ok (ht : TabOk t call) (n : Nat) (a1 : Int) (a2 a3 : Bool) (a4 : Int) (a5 : Bool) (a6 a7 : Int) (a8 : ByteArray) (a9 a10 : List GValue) (r : _) (h : value_plain_j5 t n a1 a2 a3 a4 a5 a6 a7 a8 a9 a10 = some r) : exec (env Tryd.prog 81 Tryd.f81 call) n (sub [1, 1, 1, 0, 1, 0, 1, 1, 1, 1, 1] (bodyOf Tryd.f81)) (mkSt 147 147 [(1, (.t (.v (.int .i64 a1)))), (2, (.ptr 2 0 [] 0)), (5, (.t (.v (.bool a2)))), (6, (.t (.v (.bool a3)))), (12, (.t (.v (.int .i64 a4)))), (25, (.t (.v (.bool a5))))] [(2, (.t (.st [(.v (.int .i64 a6)), (.v (.int .i64 a7)), (.v (.string a8)), (.sl false 5 (GValue.ts a9)), (.sl false 5 (GValue.ts a10))])))]) = some (value_plain_j5.to r) := by
  rw [value_plain_j5] at h
  by_cases h1 : a5 = true
  · rw [if_pos h1] at h
    by_cases h2 : (decide (a7 < 0)) = true
    · rw [if_pos h2] at h
      rw [← Option.some.inj h]
      exact path (ob_b h1 (ob_b h2 ob)) (by kernel_rfl)
    · rw [if_neg h2] at h
      replace h2 := Bool.eq_false_iff.2 h2
      rw [← Option.some.inj h]
      exact path (ob_b h1 (ob_b h2 ob)) (by kernel_rfl)
  · rw [if_neg h1] at h
    replace h1 := Bool.eq_false_iff.2 h1
    by_cases h3 : (a4 == 3) = true
    · rw [if_pos h3] at h
      rw [← Option.some.inj h]
      exact path (ob_b h1 (ob_b h3 ob)) (by kernel_rfl)
    · rw [if_neg h3] at h
      replace h3 := Bool.eq_false_iff.2 h3
      by_cases h4 : (a4 == 6) = true
      · rw [if_pos h4] at h
        rw [← Option.some.inj h]
        exact path (ob_b h1 (ob_b h3 (ob_b h4 (ob_b h4 ob)))) (by kernel_rfl)
      · rw [if_neg h4] at h
        replace h4 := Bool.eq_false_iff.2 h4
        by_cases h5 : (a4 == 8) = true
        · rw [if_pos h5] at h
          rw [← Option.some.inj h]
          exact path (ob_b h1 (ob_b h3 (ob_b h4 (ob_b h5 (ob_b h5 ob))))) (by kernel_rfl)
        · rw [if_neg h5] at h
          replace h5 := Bool.eq_false_iff.2 h5
          by_cases h6 : (a4 == 7) = true
          · rw [if_pos h6] at h
            rw [← Option.some.inj h]
            exact path (ob_b h1 (ob_b h3 (ob_b h4 (ob_b h5 (ob_b h6 ob))))) (by kernel_rfl)
          · rw [if_neg h6] at h
            replace h6 := Bool.eq_false_iff.2 h6
            rw [← Option.some.inj h]
            exact path (ob_b h1 (ob_b h3 (ob_b h4 (ob_b h5 (ob_b h6 ob))))) (by kernel_rfl)
theorem value_plain.ok {n : Nat} {t : Tab} (ht : TabOk t (run Tryd.prog own kp X n)) : ∀ (p1 : GValue) (p2 : Int) r, value_plain t n p1 p2 = some r → run Tryd.prog own kp X (n + 1) 81 [(.t (GValue.t p1)), (.t (.v (.int .i64 p2)))] [] = some ((.t (.v (.bool r))), []) := by
  intro p1 p2 r h
  obtain ⟨a1, a2, a3, a4, a5⟩ := p1
  obtain ⟨a6, rfl⟩ : ∃ z_, z_ = p2 := ⟨_, rfl⟩
  rw [value_plain] at h
  by_cases h1 : (decide (a6 > 12)) = true
  · rw [if_pos h1] at h
    rw [← Option.some.inj h]
    exact run_path Tryd.func81 (ob_b h1 ob) (by kernel_rfl)
  · rw [if_neg h1] at h
    replace h1 := Bool.eq_false_iff.2 h1
    by_cases h2 : (a1 == 1) = true
    · rw [if_pos h2] at h
      by_cases h3 : (decide (a2 < 0)) = true
      · rw [if_pos h3] at h
        rw [← Option.some.inj h]
        exact run_path Tryd.func81 (ob_b h1 (ob_b h2 (ob_b h3 (ob_b h3 (ob_b h3 (ob_b h3 (ob_b (rfl : true = true) ob))))))) (by kernel_rfl)
      · rw [if_neg h3] at h
        replace h3 := Bool.eq_false_iff.2 h3
        by_cases h4 : (decide (a2 > 1)) = true
        · rw [if_pos h4] at h
          rw [← Option.some.inj h]
          exact run_path Tryd.func81 (ob_b h1 (ob_b h2 (ob_b h3 (ob_b h3 (ob_b h3 (ob_b h3 (ob_b h4 ob))))))) (by kernel_rfl)
        · rw [if_neg h4] at h
          replace h4 := Bool.eq_false_iff.2 h4
          obtain ⟨a7, rfl⟩ : ∃ z_, z_ = r := ⟨_, rfl⟩
          have h5 := h
          exact run_path Tryd.func81 (ob_b h1 (ob_b h2 (ob_b h3 (ob_b h3 (ob_b h3 (ob_b h3 (ob_b h4 (ob_j (value_plain_j1.ok ht n _ _ _ _ _ _ _ _ _ h5) ob)))))))) (by kernel_rfl)
    · rw [if_neg h2] at h
      replace h2 := Bool.eq_false_iff.2 h2
      by_cases h6 : (a1 == 2) = true
      · rw [if_pos h6] at h
        obtain ⟨a8, rfl⟩ : ∃ z_, z_ = r := ⟨_, rfl⟩
        have h7 := h
        exact run_path Tryd.func81 (ob_b h1 (ob_b h2 (ob_b h6 (ob_j (value_plain_j1.ok ht n _ _ _ _ _ _ _ _ _ h7) ob)))) (by kernel_rfl)
      · rw [if_neg h6] at h
        replace h6 := Bool.eq_false_iff.2 h6
        by_cases h8 : (a1 == 4) = true
        · rw [if_pos h8] at h
          rcases h9 : value_plain_j5 t n  a6 false false a1 (a1 == 4) a1 a2 a3 a4 a5 with _ | q_
          · rw [h9] at h; cases h
          rw [h9] at h
          rcases q_ with a9 | ⟨a10, a11, a12, a13, a14, a15, a16, a17⟩
          · dsimp only at h
            rw [← Option.some.inj h]
            exact run_path Tryd.func81 (ob_b h1 (ob_b h2 (ob_b h6 (ob_b h8 (ob_j (value_plain_j5.ok ht n _ _ _ _ _ _ _ _ _ _ _ h9) ob))))) (by kernel_rfl)
          · dsimp only at h
            obtain ⟨a18, rfl⟩ : ∃ z_, z_ = r := ⟨_, rfl⟩
            have h10 := h
            exact run_path Tryd.func81 (ob_b h1 (ob_b h2 (ob_b h6 (ob_b h8 (ob_j (value_plain_j5.ok ht n _ _ _ _ _ _ _ _ _ _ _ h9) (ob_j (value_plain_j1.ok ht n _ _ _ _ _ _ _ _ _ h10) ob)))))) (by kernel_rfl)
        · rw [if_neg h8] at h
          replace h8 := Bool.eq_false_iff.2 h8
          rcases h11 : value_plain_j5 t n  a6 false false a1 (a1 == 5) a1 a2 a3 a4 a5 with _ | q_
          · rw [h11] at h; cases h
          rw [h11] at h
          rcases q_ with a19 | ⟨a20, a21, a22, a23, a24, a25, a26, a27⟩
          · dsimp only at h
            rw [← Option.some.inj h]
            exact run_path Tryd.func81 (ob_b h1 (ob_b h2 (ob_b h6 (ob_b h8 (ob_j (value_plain_j5.ok ht n _ _ _ _ _ _ _ _ _ _ _ h11) ob))))) (by kernel_rfl)
          · dsimp only at h
            obtain ⟨a28, rfl⟩ : ∃ z_, z_ = r := ⟨_, rfl⟩
            have h12 := h
            exact run_path Tryd.func81 (ob_b h1 (ob_b h2 (ob_b h6 (ob_b h8 (ob_j (value_plain_j5.ok ht n _ _ _ _ _ _ _ _ _ _ _ h11) (ob_j (value_plain_j1.ok ht n _ _ _ _ _ _ _ _ _ h12) ob)))))) (by kernel_rfl)
theorem pred_right_j1.ok (ht : TabOk t call) (n : Nat) (a1 : Int) (a2 : List GValue) (a3 : List GPred) (a4 : Int) (r : _) (h : pred_right_j1 t n a1 a2 a3 a4 = some r) : exec (env Tryd.prog 82 Tryd.f82 call) n (sub [1, 1, 1] (bodyOf Tryd.f82)) (mkSt 62 62 [(2, (.ptr 2 0 [] 0)), (3, (.ptr 3 0 [] 0))] [(2, (.t (.st [(.v (.int .i64 a1)), (.sl false 5 (GValue.ts a2)), (.sl false 3 (GPred.ts a3))]))), (3, (.t (.v (.int .i64 a4))))]) = some (pred_right_j1.to r) := by
  rw [pred_right_j1] at h
  rcases h1 : t.slices_ContainsFunc_pred_right_1 a3 a4 with _ | a5
  · rw [h1] at h; cases h
  rw [h1] at h
  dsimp only at h
  by_cases h2 : a5 = true
  · rw [if_pos h2] at h
    rw [← Option.some.inj h]
    exact path (ob_c (ht.slices_ContainsFunc_pred_right_1 _ _ _ h1) (ob_b (congrArg (!·) h2) (ob_b (congrArg (!·) h2) (ob_b (congrArg (!·) h2) (ob_b (congrArg (!·) h2) (ob_b (congrArg (!·) h2) (ob_b (congrArg (!·) h2) ob))))))) (by kernel_rfl)
  · rw [if_neg h2] at h
    replace h2 := Bool.eq_false_iff.2 h2
    rcases h3 : t.slices_ContainsFunc_pred_right_2 a2 with _ | a6
    · rw [h3] at h; cases h
    rw [h3] at h
    dsimp only at h
    rw [← Option.some.inj h]
    exact path (ob_c (ht.slices_ContainsFunc_pred_right_1 _ _ _ h1) (ob_b (congrArg (!·) h2) (ob_b (congrArg (!·) h2) (ob_b (congrArg (!·) h2) (ob_b (congrArg (!·) h2) (ob_c (ht.slices_ContainsFunc_pred_right_2 _ _ h3) (ob_b (congrArg (!·) h2) (ob_b (congrArg (!·) h2) ob)))))))) (by kernel_rfl)
theorem pred_right.ok {n : Nat} {t : Tab} (ht : TabOk t (run Tryd.prog own kp X n)) : ∀ (p1 : GPred) (p2 : Int) r, pred_right t n p1 p2 = some r → run Tryd.prog own kp X (n + 1) 82 [(.t (GPred.t p1)), (.t (.v (.int .i64 p2)))] [] = some ((.t (.v (.bool r))), []) := by
  intro p1 p2 r h
  obtain ⟨a1, a2, a3⟩ := p1
  obtain ⟨a4, rfl⟩ : ∃ z_, z_ = p2 := ⟨_, rfl⟩
  rw [pred_right] at h
  rcases h1 : t.pred_arity a1 with _ | ⟨a5, a6, a7, a8⟩
  · rw [h1] at h; cases h
  rw [h1] at h
  dsimp only at h
  by_cases h2 : (decide (a4 > 12)) = true
  · rw [if_pos h2] at h
    rw [← Option.some.inj h]
    exact run_path Tryd.func82 (ob_c (ht.pred_arity _ _ h1) (ob_b h2 (ob_b h2 (ob_b h2 (ob_b h2 (ob_b h2 (ob_b h2 (ob_b (rfl : true = true) (ob_b (rfl : true = true) (ob_b (rfl : true = true) (ob_b (rfl : true = true) (ob_b (rfl : true = true) (ob_b (rfl : true = true) (ob_b (rfl : true = true) (ob_b (rfl : true = true) (ob_b (rfl : true = true) (ob_b (rfl : true = true) (ob_b (rfl : true = true) (ob_b (rfl : true = true) (ob_b (rfl : true = true) (ob_b (rfl : true = true) (ob_b (rfl : true = true) (ob_b (rfl : true = true) (ob_b (rfl : true = true) (ob_b (rfl : true = true) (ob_b (rfl : true = true) ob)))))))))))))))))))))))))) (by kernel_rfl)
  · rw [if_neg h2] at h
    replace h2 := Bool.eq_false_iff.2 h2
    by_cases h3 : (decide ((a2.length : Int) < a5)) = true
    · rw [if_pos h3] at h
      rw [← Option.some.inj h]
      exact run_path Tryd.func82 (ob_c (ht.pred_arity _ _ h1) (ob_b h2 (ob_b h2 (ob_b h2 (ob_v (len_ts GValue.ts_map (l := a2)) (ob_b h2 (ob_b h2 (ob_b h2 (ob_b h3 (ob_b h3 (ob_b h3 (ob_b h3 (ob_b h3 (ob_b h3 (ob_b (rfl : true = true) (ob_b (rfl : true = true) (ob_b (rfl : true = true) (ob_b (rfl : true = true) (ob_b (rfl : true = true) (ob_b (rfl : true = true) (ob_b (rfl : true = true) (ob_b (rfl : true = true) (ob_b (rfl : true = true) (ob_b (rfl : true = true) (ob_b (rfl : true = true) (ob_b (rfl : true = true) (ob_b (rfl : true = true) ob))))))))))))))))))))))))))) (by kernel_rfl)
    · rw [if_neg h3] at h
      replace h3 := Bool.eq_false_iff.2 h3
      by_cases h4 : (decide ((a2.length : Int) > a6)) = true
      · rw [if_pos h4] at h
        rw [← Option.some.inj h]
        exact run_path Tryd.func82 (ob_c (ht.pred_arity _ _ h1) (ob_b h2 (ob_b h2 (ob_b h2 (ob_v (len_ts GValue.ts_map (l := a2)) (ob_b h2 (ob_b h2 (ob_b h2 (ob_b h3 (ob_b h3 (ob_b h3 (ob_v (len_ts GValue.ts_map (l := a2)) (ob_b h3 (ob_b h3 (ob_b h3 (ob_b h4 (ob_b h4 (ob_b h4 (ob_b h4 (ob_b h4 (ob_b h4 (ob_b (rfl : true = true) (ob_b (rfl : true = true) (ob_b (rfl : true = true) (ob_b (rfl : true = true) (ob_b (rfl : true = true) (ob_b (rfl : true = true) (ob_b (rfl : true = true) ob)))))))))))))))))))))))))))) (by kernel_rfl)
      · rw [if_neg h4] at h
        replace h4 := Bool.eq_false_iff.2 h4
        by_cases h5 : (decide ((a3.length : Int) < a7)) = true
        · rw [if_pos h5] at h
          rw [← Option.some.inj h]
          exact run_path Tryd.func82 (ob_c (ht.pred_arity _ _ h1) (ob_b h2 (ob_b h2 (ob_b h2 (ob_v (len_ts GValue.ts_map (l := a2)) (ob_b h2 (ob_b h2 (ob_b h2 (ob_b h3 (ob_b h3 (ob_b h3 (ob_v (len_ts GValue.ts_map (l := a2)) (ob_b h3 (ob_b h3 (ob_b h3 (ob_b h4 (ob_b h4 (ob_b h4 (ob_v (len_ts GPred.ts_map (l := a3)) (ob_b h4 (ob_b h4 (ob_b h4 (ob_b h5 (ob_b h5 (ob_b h5 (ob_b h5 (ob_b h5 (ob_b h5 (ob_b (rfl : true = true) ob))))))))))))))))))))))))))))) (by kernel_rfl)
        · rw [if_neg h5] at h
          replace h5 := Bool.eq_false_iff.2 h5
          by_cases h6 : (decide ((a3.length : Int) > a8)) = true
          · rw [if_pos h6] at h
            rw [← Option.some.inj h]
            exact run_path Tryd.func82 (ob_c (ht.pred_arity _ _ h1) (ob_b h2 (ob_b h2 (ob_b h2 (ob_v (len_ts GValue.ts_map (l := a2)) (ob_b h2 (ob_b h2 (ob_b h2 (ob_b h3 (ob_b h3 (ob_b h3 (ob_v (len_ts GValue.ts_map (l := a2)) (ob_b h3 (ob_b h3 (ob_b h3 (ob_b h4 (ob_b h4 (ob_b h4 (ob_v (len_ts GPred.ts_map (l := a3)) (ob_b h4 (ob_b h4 (ob_b h4 (ob_b h5 (ob_b h5 (ob_b h5 (ob_v (len_ts GPred.ts_map (l := a3)) (ob_b h5 (ob_b h5 (ob_b h5 (ob_b h6 ob)))))))))))))))))))))))))))))) (by kernel_rfl)
          · rw [if_neg h6] at h
            replace h6 := Bool.eq_false_iff.2 h6
            obtain ⟨a9, rfl⟩ : ∃ z_, z_ = r := ⟨_, rfl⟩
            have h7 := h
            exact run_path Tryd.func82 (ob_c (ht.pred_arity _ _ h1) (ob_b h2 (ob_b h2 (ob_b h2 (ob_v (len_ts GValue.ts_map (l := a2)) (ob_b h2 (ob_b h2 (ob_b h2 (ob_b h3 (ob_b h3 (ob_b h3 (ob_v (len_ts GValue.ts_map (l := a2)) (ob_b h3 (ob_b h3 (ob_b h3 (ob_b h4 (ob_b h4 (ob_b h4 (ob_v (len_ts GPred.ts_map (l := a3)) (ob_b h4 (ob_b h4 (ob_b h4 (ob_b h5 (ob_b h5 (ob_b h5 (ob_v (len_ts GPred.ts_map (l := a3)) (ob_b h5 (ob_b h5 (ob_b h5 (ob_b h6 (ob_j (pred_right_j1.ok ht n _ _ _ _ _ h7) ob))))))))))))))))))))))))))))))) (by kernel_rfl)
theorem slices_Contains_string.ok {n : Nat} {t : Tab} (ht : TabOk t (run Tryd.prog own kp X n)) : ∀ (p1 : List ByteArray) (p2 : ByteArray) r, slices_Contains_string t n p1 p2 = some r → run Tryd.prog own kp X (n + 1) 83 [(.t (.sl false 1 (texts p1))), (.t (.v (.string p2)))] [] = some ((.t (.v (.bool r))), []) := by
  intro p1 p2 r h
  obtain ⟨a1, rfl⟩ : ∃ z_, z_ = p1 := ⟨_, rfl⟩
  obtain ⟨a2, rfl⟩ : ∃ z_, z_ = p2 := ⟨_, rfl⟩
  rw [slices_Contains_string] at h
  rcases h1 : t.slices_Index_string a1 a2 with _ | a3
  · rw [h1] at h; cases h
  rw [h1] at h
  dsimp only at h
  rw [← Option.some.inj h]
  exact run_path Tryd.func83 (ob_c (ht.slices_Index_string _ _ _ h1) ob) (by kernel_rfl)
theorem value_Cmp.ok {n : Nat} {t : Tab} (ht : TabOk t (run Tryd.prog own kp X n)) : ∀ (p1 : GValue) (p2 : GValue) r, value_Cmp t n p1 p2 = some r → run Tryd.prog own kp X (n + 1) 51 [(.t (GValue.t p1)), (.t (GValue.t p2))] [] = some ((.t (.v (.int .i64 r))), []) := by
  intro p1 p2 r h
  obtain ⟨a1, a2, a3, a4, a5⟩ := p1
  obtain ⟨a6, a7, a8, a9, a10⟩ := p2
  rw [value_Cmp] at h
  obtain ⟨a11, rfl⟩ : ∃ z_, z_ = r := ⟨_, rfl⟩
  have h1 := h
  exact run_path Tryd.func51 (ob_c (ht.value_compare _ _ _ _ h1) ob) (by kernel_rfl)
theorem slices_ContainsFunc_plan_numbers_1.ok {n : Nat} {t : Tab} (ht : TabOk t (run Tryd.prog own kp X n)) : ∀ (p1 : List Int) r, slices_ContainsFunc_plan_numbers_1 t n p1 = some r → run Tryd.prog own kp X (n + 1) 79 [(.t (.sl false 1 (ints_i64 p1))), (.fn 80 [])] [] = some ((.t (.v (.bool r))), []) := by
  intro p1 r h
  obtain ⟨a1, rfl⟩ : ∃ z_, z_ = p1 := ⟨_, rfl⟩
  rw [slices_ContainsFunc_plan_numbers_1] at h
  rcases h1 : t.slices_IndexFunc_plan_numbers_1 a1 with _ | a2
  · rw [h1] at h; cases h
  rw [h1] at h
  dsimp only at h
  rw [← Option.some.inj h]
  exact run_path Tryd.func79 (ob_c (ht.slices_IndexFunc_plan_numbers_1 _ _ h1) ob) (by kernel_rfl)
theorem graph_Name_l1.okL (ht : TabOk t call) (n : Nat) : ∀ (k : Nat) (a1 : ByteArray) (a2 a3 : Int) (r : _), graph_Name_l1 t n k a1 a2 a3 = some r → loopN (exec (env Tryd.prog 65 Tryd.f65 call) n (sub [1, 0, 1, 0, 0] (bodyOf Tryd.f65))) k (mkSt 24 24 [(0, (.t (.v (.string a1)))), (5, (.t (.v (.int .i64 a2)))), (6, (.t (.v (.int .i64 a3))))] []) = some (graph_Name_l1.to r)
  | 0, a1, a2, a3, r, h => by rw [graph_Name_l1] at h; cases h
  | k + 1, a1, a2, a3, r, h => by
    rw [graph_Name_l1] at h
    by_cases h1 : (decide (a3 < a2)) = true
    · rw [if_pos h1] at h
      rcases h2 : strAt a1 a3 with _ | a4
      · rw [h2] at h; cases h
      rw [h2] at h
      dsimp only at h
      rcases h3 : t.graph_sign a4 (a3 == 0) with _ | a5
      · rw [h3] at h; cases h
      rw [h3] at h
      dsimp only at h
      by_cases h4 : a5 = true
      · rw [if_pos h4] at h
        exact loop_more (path (ob_b h1 (ob_v (at_ok (P := Tryd.prog) (t := 9) (k := .i64) (by kernel_rfl) h2) (ob_c (ht.graph_sign _ _ _ h3) (ob_b (congrArg (!·) h4) ob)))) (by kernel_rfl)) (graph_Name_l1.okL ht n k _ _ _ _ h)
      · rw [if_neg h4] at h
        replace h4 := Bool.eq_false_iff.2 h4
        rw [← Option.some.inj h]
        exact loop_out (path (ob_b h1 (ob_v (at_ok (P := Tryd.prog) (t := 9) (k := .i64) (by kernel_rfl) h2) (ob_c (ht.graph_sign _ _ _ h3) (ob_b (congrArg (!·) h4) ob)))) (by kernel_rfl)) (fun h => by cases h)
    · rw [if_neg h1] at h
      replace h1 := Bool.eq_false_iff.2 h1
      rw [← Option.some.inj h]
      exact loop_out (path (ob_b h1 ob) (by kernel_rfl)) (fun h => by cases h)
theorem graph_Name_l1.ok (ht : TabOk t call) (n : Nat) (a1 : ByteArray) (a2 a3 : Int) (r : _) (h : graph_Name_l1 t n n a1 a2 a3 = some r) : exec (env Tryd.prog 65 Tryd.f65 call) n (sub [1, 0, 1, 0] (bodyOf Tryd.f65)) (mkSt 24 24 [(0, (.t (.v (.string a1)))), (5, (.t (.v (.int .i64 a2)))), (6, (.t (.v (.int .i64 a3))))] []) = some (graph_Name_l1.to r) := by
  have e1 : sub [1, 0, 1, 0] (bodyOf Tryd.f65) = .loop (sub [1, 0, 1, 0, 0] (bodyOf Tryd.f65)) := by kernel_rfl
  rw [e1, exec]
  exact graph_Name_l1.okL ht n n a1 a2 a3 r h
theorem graph_Name_j2.ok (ht : TabOk t call) (n : Nat) (a1 : ByteArray) (r : _) (h : graph_Name_j2 t n a1 = some r) : exec (env Tryd.prog 65 Tryd.f65 call) n (sub [1, 1] (bodyOf Tryd.f65)) (mkSt 24 24 [(0, (.t (.v (.string a1))))] []) = some (graph_Name_j2.to r) := by
  rw [graph_Name_j2] at h
  by_cases h1 : (a1.toList == (ByteArray.mk #[]).toList) = true
  · rw [if_pos h1] at h
    rw [← Option.some.inj h]
    exact path (ob_b (congrArg (!·) h1) (ob_b (congrArg (!·) h1) (ob_b (congrArg (!·) h1) (ob_b (congrArg (!·) h1) ob)))) (by kernel_rfl)
  · rw [if_neg h1] at h
    replace h1 := Bool.eq_false_iff.2 h1
    rw [← Option.some.inj h]
    exact path (ob_b (congrArg (!·) h1) (ob_b (congrArg (!·) h1) (ob_b (congrArg (!·) h1) (ob_b (congrArg (!·) h1) ob)))) (by kernel_rfl)
theorem graph_Name.ok {n : Nat} {t : Tab} (ht : TabOk t (run Tryd.prog own kp X n)) : ∀ (p1 : ByteArray) r, graph_Name t n p1 = some r → run Tryd.prog own kp X (n + 1) 65 [(.t (.v (.string p1)))] [] = some ((.t (.v (.bool r))), []) := by
  intro p1 r h
  obtain ⟨a1, rfl⟩ : ∃ z_, z_ = p1 := ⟨_, rfl⟩
  rw [graph_Name] at h
  rcases h1 : graph_Name_l1 t n n a1 (a1.size : Int) 0 with _ | q_
  · rw [h1] at h; cases h
  rw [h1] at h
  rcases q_ with a2 | ⟨a3, a4, a5, a6⟩
  · dsimp only at h
    rw [← Option.some.inj h]
    exact run_path Tryd.func65 (ob_k (graph_Name_l1.ok ht n _ _ _ _ h1) ob) (by kernel_rfl)
  · dsimp only at h
    obtain ⟨a7, rfl⟩ : ∃ z_, z_ = r := ⟨_, rfl⟩
    have h2 := h
    exact run_path Tryd.func65 (ob_k (graph_Name_l1.ok ht n _ _ _ _ h1) (ob_j (graph_Name_j2.ok ht n _ _ h2) ob)) (by kernel_rfl)
theorem plan_step_1.ok {n : Nat} {t : Tab} (ht : TabOk t (run Tryd.prog own kp X n)) : ∀ (p1 : ByteArray) r, plan_step_1 t n p1 = some r → run Tryd.prog own kp X (n + 1) 64 [(.t (.v (.string p1)))] [] = some ((.t (.v (.bool r))), []) := by
  intro p1 r h
  obtain ⟨a1, rfl⟩ : ∃ z_, z_ = p1 := ⟨_, rfl⟩
  rw [plan_step_1] at h
  rcases h1 : t.graph_Name a1 with _ | a2
  · rw [h1] at h; cases h
  rw [h1] at h
  dsimp only at h
  rw [← Option.some.inj h]
  exact run_path Tryd.func64 (ob_c (ht.graph_Name _ _ h1) ob) (by kernel_rfl)
theorem slices_Concat_Value_l1.okL (ht : TabOk t call) (n : Nat) : ∀ (k : Nat) (a1 : List (List GValue)) (a2 : Int) (a3 : List (List GValue)) (a4 a5 : Int) (r : _), slices_Concat_Value_l1 t n k a1 a2 a3 a4 a5 = some r → loopN (exec (env Tryd.prog 91 Tryd.f91 call) n (sub [1, 1, 0, 1, 0, 0] (bodyOf Tryd.f91))) k (mkSt 36 36 [(0, (.t (.sl false 1 (rows_GValue_ts a1)))), (3, (.t (.v (.int .i64 a2)))), (9, (.t (.sl false 1 (rows_GValue_ts a3)))), (10, (.t (.v (.int .i64 a4)))), (11, (.t (.v (.int .i64 a5))))] []) = some (slices_Concat_Value_l1.to r)
  | 0, a1, a2, a3, a4, a5, r, h => by rw [slices_Concat_Value_l1] at h; cases h
  | k + 1, a1, a2, a3, a4, a5, r, h => by
    rw [slices_Concat_Value_l1] at h
    by_cases h1 : (decide (a5 < a4)) = true
    · rw [if_pos h1] at h
      by_cases h2 : (decide (0 ≤ (a5 : Int))) = true
      case neg => rw [if_neg h2] at h; cases h
      rw [if_pos h2] at h
      rcases h3 : a3[(a5 : Int).toNat]? with _ | a6
      · rw [h3] at h; cases h
      rw [h3] at h
      dsimp only at h
      by_cases h4 : (decide ((IntKind.wrap .i64 (a2 + (a6.length : Int))) < 0)) = true
      · rw [if_pos h4] at h
        cases h
      · rw [if_neg h4] at h
        replace h4 := Bool.eq_false_iff.2 h4
        exact loop_more (path (ob_b h1 (ob_n h2 (ob_t (look_ts rows_GValue_ts_map h3) (ob_v (len_ts GValue.ts_map (l := a6)) (ob_b h4 ob))))) (by kernel_rfl)) (slices_Concat_Value_l1.okL ht n k _ _ _ _ _ _ h)
    · rw [if_neg h1] at h
      replace h1 := Bool.eq_false_iff.2 h1
      rw [← Option.some.inj h]
      exact loop_out (path (ob_b h1 ob) (by kernel_rfl)) (fun h => by cases h)
theorem slices_Concat_Value_l1.ok (ht : TabOk t call) (n : Nat) (a1 : List (List GValue)) (a2 : Int) (a3 : List (List GValue)) (a4 a5 : Int) (r : _) (h : slices_Concat_Value_l1 t n n a1 a2 a3 a4 a5 = some r) : exec (env Tryd.prog 91 Tryd.f91 call) n (sub [1, 1, 0, 1, 0] (bodyOf Tryd.f91)) (mkSt 36 36 [(0, (.t (.sl false 1 (rows_GValue_ts a1)))), (3, (.t (.v (.int .i64 a2)))), (9, (.t (.sl false 1 (rows_GValue_ts a3)))), (10, (.t (.v (.int .i64 a4)))), (11, (.t (.v (.int .i64 a5))))] []) = some (slices_Concat_Value_l1.to r) := by
  have e1 : sub [1, 1, 0, 1, 0] (bodyOf Tryd.f91) = .loop (sub [1, 1, 0, 1, 0, 0] (bodyOf Tryd.f91)) := by kernel_rfl
  rw [e1, exec]
  exact slices_Concat_Value_l1.okL ht n n a1 a2 a3 a4 a5 r h
theorem slices_Concat_Value_l3.okL (ht : TabOk t call) (n : Nat) : ∀ (k : Nat) (a1 : List GValue) (a2 : List (List GValue)) (a3 a4 : Int) (r : _), slices_Concat_Value_l3 t n k a1 a2 a3 a4 = some r → loopN (exec (env Tryd.prog 91 Tryd.f91 call) n (sub [1, 1, 1, 1, 0, 1, 0, 0] (bodyOf Tryd.f91))) k (mkSt 36 36 [(6, (.t (.sl true 5 (GValue.ts a1)))), (25, (.t (.sl false 1 (rows_GValue_ts a2)))), (26, (.t (.v (.int .i64 a3)))), (27, (.t (.v (.int .i64 a4))))] []) = some (slices_Concat_Value_l3.to r)
  | 0, a1, a2, a3, a4, r, h => by rw [slices_Concat_Value_l3] at h; cases h
  | k + 1, a1, a2, a3, a4, r, h => by
    rw [slices_Concat_Value_l3] at h
    by_cases h1 : (decide (a4 < a3)) = true
    · rw [if_pos h1] at h
      by_cases h2 : (decide (0 ≤ (a4 : Int))) = true
      case neg => rw [if_neg h2] at h; cases h
      rw [if_pos h2] at h
      rcases h3 : a2[(a4 : Int).toNat]? with _ | a5
      · rw [h3] at h; cases h
      rw [h3] at h
      dsimp only at h
      by_cases h4 : (a1.length + a5.length) * 80 ≤ 140737488355328
      case neg => rw [if_neg h4] at h; cases h
      rw [if_pos h4] at h
      exact loop_more (path (ob_b h1 (ob_n h2 (ob_t (look_ts rows_GValue_ts_map h3) (ob_le (room_ts GValue.ts_map h4) (ob_l (app_ts GValue.ts_map (a := a1) (b := a5)) ob))))) (by kernel_rfl)) (slices_Concat_Value_l3.okL ht n k _ _ _ _ _ h)
    · rw [if_neg h1] at h
      replace h1 := Bool.eq_false_iff.2 h1
      rw [← Option.some.inj h]
      exact loop_out (path (ob_b h1 ob) (by kernel_rfl)) (fun h => by cases h)
theorem slices_Concat_Value_l3.ok (ht : TabOk t call) (n : Nat) (a1 : List GValue) (a2 : List (List GValue)) (a3 a4 : Int) (r : _) (h : slices_Concat_Value_l3 t n n a1 a2 a3 a4 = some r) : exec (env Tryd.prog 91 Tryd.f91 call) n (sub [1, 1, 1, 1, 0, 1, 0] (bodyOf Tryd.f91)) (mkSt 36 36 [(6, (.t (.sl true 5 (GValue.ts a1)))), (25, (.t (.sl false 1 (rows_GValue_ts a2)))), (26, (.t (.v (.int .i64 a3)))), (27, (.t (.v (.int .i64 a4))))] []) = some (slices_Concat_Value_l3.to r) := by
  have e1 : sub [1, 1, 1, 1, 0, 1, 0] (bodyOf Tryd.f91) = .loop (sub [1, 1, 1, 1, 0, 1, 0, 0] (bodyOf Tryd.f91)) := by kernel_rfl
  rw [e1, exec]
  exact slices_Concat_Value_l3.okL ht n n a1 a2 a3 a4 r h
theorem slices_Concat_Value_j2.ok (ht : TabOk t call) (n : Nat) (a1 : List (List GValue)) (a2 : Int) (r : _) (h : slices_Concat_Value_j2 t n a1 a2 = some r) : exec (env Tryd.prog 91 Tryd.f91 call) n (sub [1, 1, 1] (bodyOf Tryd.f91)) (mkSt 36 36 [(0, (.t (.sl false 1 (rows_GValue_ts a1)))), (3, (.t (.v (.int .i64 a2))))] []) = some (slices_Concat_Value_j2.to r) := by
  rw [slices_Concat_Value_j2] at h
  rcases h1 : t.slices_Grow_Value ([] : List GValue) a2 with _ | a3
  · rw [h1] at h; cases h
  rw [h1] at h
  dsimp only at h
  rcases h2 : slices_Concat_Value_l3 t n n a3 a1 (a1.length : Int) 0 with _ | q_
  · rw [h2] at h; cases h
  rw [h2] at h
  obtain ⟨a4, a5, a6, a7, a8⟩ := q_
  dsimp only at h
  rw [← Option.some.inj h]
  exact path (ob_c (ht.slices_Grow_Value _ _ _ h1) (ob_v (len_ts rows_GValue_ts_map (l := a1)) (ob_k (slices_Concat_Value_l3.ok ht n _ _ _ _ _ h2) ob))) (by kernel_rfl)
theorem slices_Concat_Value.ok {n : Nat} {t : Tab} (ht : TabOk t (run Tryd.prog own kp X n)) : ∀ (p1 : List (List GValue)) r, slices_Concat_Value t n p1 = some r → run Tryd.prog own kp X (n + 1) 91 [(.t (.sl false 1 (rows_GValue_ts p1)))] [] = some ((.t (.sl false 5 (GValue.ts r))), []) := by
  intro p1 r h
  obtain ⟨a1, rfl⟩ : ∃ z_, z_ = p1 := ⟨_, rfl⟩
  rw [slices_Concat_Value] at h
  rcases h1 : slices_Concat_Value_l1 t n n a1 0 a1 (a1.length : Int) 0 with _ | q_
  · rw [h1] at h; cases h
  rw [h1] at h
  obtain ⟨a2, a3, a4, a5, a6, a7⟩ := q_
  dsimp only at h
  obtain ⟨a8, rfl⟩ : ∃ z_, z_ = r := ⟨_, rfl⟩
  have h2 := h
  exact run_path Tryd.func91 (ob_v (len_ts rows_GValue_ts_map (l := a1)) (ob_k (slices_Concat_Value_l1.ok ht n _ _ _ _ _ _ h1) (ob_j (slices_Concat_Value_j2.ok ht n _ _ _ h2) ob))) (by kernel_rfl)
theorem pred_arity_j3.ok (ht : TabOk t call) (n : Nat) (a1 : Int) (a2 : Bool) (r : _) (h : pred_arity_j3 t n a1 a2 = some r) : exec (env Tryd.prog 92 Tryd.f92 call) n (sub [1, 0, 0, 1, 1, 1, 1, 1] (bodyOf Tryd.f92)) (mkSt 37 37 [(0, (.t (.v (.int .i64 a1)))), (20, (.t (.v (.bool a2))))] []) = some (pred_arity_j3.to r) := by
  rw [pred_arity_j3] at h
  by_cases h1 : a2 = true
  · rw [if_pos h1] at h
    rw [← Option.some.inj h]
    exact path (ob_b h1 ob) (by kernel_rfl)
  · rw [if_neg h1] at h
    replace h1 := Bool.eq_false_iff.2 h1
    by_cases h2 : (a1 == 12) = true
    · rw [if_pos h2] at h
      rw [← Option.some.inj h]
      exact path (ob_b h1 (ob_b h2 ob)) (by kernel_rfl)
    · rw [if_neg h2] at h
      replace h2 := Bool.eq_false_iff.2 h2
      by_cases h3 : (a1 == 13) = true
      · rw [if_pos h3] at h
        rw [← Option.some.inj h]
        exact path (ob_b h1 (ob_b h2 (ob_b h3 (ob_b h3 (ob_b h3 (ob_b (rfl : true = true) ob)))))) (by kernel_rfl)
      · rw [if_neg h3] at h
        replace h3 := Bool.eq_false_iff.2 h3
        by_cases h4 : (a1 == 14) = true
        · rw [if_pos h4] at h
          rw [← Option.some.inj h]
          exact path (ob_b h1 (ob_b h2 (ob_b h3 (ob_b h3 (ob_b h3 (ob_b h4 ob)))))) (by kernel_rfl)
        · rw [if_neg h4] at h
          replace h4 := Bool.eq_false_iff.2 h4
          rw [← Option.some.inj h]
          exact path (ob_b h1 (ob_b h2 (ob_b h3 (ob_b h3 (ob_b h3 (ob_b h4 ob)))))) (by kernel_rfl)
theorem pred_arity_j2.ok (ht : TabOk t call) (n : Nat) (a1 : Int) (a2 : Bool) (r : _) (h : pred_arity_j2 t n a1 a2 = some r) : exec (env Tryd.prog 92 Tryd.f92 call) n (sub [1, 0, 0, 1, 1, 1] (bodyOf Tryd.f92)) (mkSt 37 37 [(0, (.t (.v (.int .i64 a1)))), (13, (.t (.v (.bool a2))))] []) = some (pred_arity_j2.to r) := by
  rw [pred_arity_j2] at h
  by_cases h1 : a2 = true
  · rw [if_pos h1] at h
    rw [← Option.some.inj h]
    exact path (ob_b h1 ob) (by kernel_rfl)
  · rw [if_neg h1] at h
    replace h1 := Bool.eq_false_iff.2 h1
    by_cases h2 : (a1 == 10) = true
    · rw [if_pos h2] at h
      have h3 := h
      rcases r with ⟨a3, a4, a5, a6⟩ | _
      · exact path (ob_b h1 (ob_b h2 (ob_b h2 (ob_b h2 (ob_j (pred_arity_j3.ok ht n _ _ _ h3) ob))))) (by kernel_rfl)
      · exact path (ob_b h1 (ob_b h2 (ob_b h2 (ob_b h2 (ob_j (pred_arity_j3.ok ht n _ _ _ h3) ob))))) (by kernel_rfl)
    · rw [if_neg h2] at h
      replace h2 := Bool.eq_false_iff.2 h2
      have h4 := h
      rcases r with ⟨a7, a8, a9, a10⟩ | _
      · exact path (ob_b h1 (ob_b h2 (ob_b h2 (ob_b h2 (ob_j (pred_arity_j3.ok ht n _ _ _ h4) ob))))) (by kernel_rfl)
      · exact path (ob_b h1 (ob_b h2 (ob_b h2 (ob_b h2 (ob_j (pred_arity_j3.ok ht n _ _ _ h4) ob))))) (by kernel_rfl)
end Go.Proofs.YtgkfjhfehdefaaaDoor.W

/- The walk of the law FrameMakes. Conditions: those that each statement names. -/
import Derived.Test.YtkcaifpmceoflaaDoorRRight
import Derived.Test.YtkcaifpmceoflaaDoorRBytes
import Derived.Test.YtkcaifpmceoflaaDoorRText
import Derived.Test.YtkcaifpmceoflaaDoorCuts
namespace Go.Proofs.YtkcaifpmceoflaaDoor.Frm
open Go.RowKit Go.Proofs.YtkcaifpmceoflaaDoorW.PrintWords Go.Proofs.YtkcaifpmceoflaaDoorW.PrintLast Go.Proofs.YtkcaifpmceoflaaDoorW.PrintMore
set_option linter.unusedVariables false
set_option linter.unusedSimpArgs false
theorem bytes_eq (a b : ByteArray) (h : a.data.toList = b.data.toList) : a = b := ByteArray.ext (Array.toList_inj.1 h)
theorem txt_head (f : Fr) (n d : ByteArray) : txt (head5 f n d) = n ++ (⟨#[32]⟩ : ByteArray) ++ dgs f.src ++ (⟨#[32, 62, 32]⟩ : ByteArray) ++ d ++ (⟨#[32]⟩ : ByteArray) ++ etext f.ec f.ea f.ei ++ (⟨#[47]⟩ : ByteArray) ++ dgs f.hop := by
  unfold head5
  rw [txt_two, txt_two, txt_two, txt_two, txt_one]
  apply bytes_eq
  simp only [ByteArray.data_append, Array.toList_append, List.append_assoc]
  rfl
theorem txt_high (f : Fr) (n d h k hk : ByteArray) (e : (⟨#[32]⟩ : ByteArray) ++ k = hk) : txt (head5 f n d ++ [(⟨#[104, 105, 103, 104]⟩ : ByteArray), h] ++ [k]) = n ++ (⟨#[32]⟩ : ByteArray) ++ dgs f.src ++ (⟨#[32, 62, 32]⟩ : ByteArray) ++ d ++ (⟨#[32]⟩ : ByteArray) ++ etext f.ec f.ea f.ei ++ (⟨#[47]⟩ : ByteArray) ++ dgs f.hop ++ (⟨#[32, 104, 105, 103, 104, 32]⟩ : ByteArray) ++ h ++ hk := by
  unfold head5
  rw [← e]
  show txt (_ :: _ :: _ :: _ :: _ :: _ :: _ :: [_]) = _
  rw [txt_two, txt_two, txt_two, txt_two, txt_two, txt_two, txt_two, txt_one]
  apply bytes_eq
  simp only [ByteArray.data_append, Array.toList_append, List.append_assoc]
  rfl
theorem txt_data (f : Fr) (n d a b c p q : ByteArray) : txt (head5 f n d ++ [(⟨#[98, 108, 111, 99, 107]⟩ : ByteArray), a, b ++ (⟨#[46]⟩ : ByteArray) ++ c, p, (⟨#[111, 102]⟩ : ByteArray), q]) = n ++ (⟨#[32]⟩ : ByteArray) ++ dgs f.src ++ (⟨#[32, 62, 32]⟩ : ByteArray) ++ d ++ (⟨#[32]⟩ : ByteArray) ++ etext f.ec f.ea f.ei ++ (⟨#[47]⟩ : ByteArray) ++ dgs f.hop ++ (⟨#[32, 98, 108, 111, 99, 107, 32]⟩ : ByteArray) ++ a ++ (⟨#[32]⟩ : ByteArray) ++ b ++ (⟨#[46]⟩ : ByteArray) ++ c ++ (⟨#[32]⟩ : ByteArray) ++ p ++ (⟨#[32, 111, 102, 32]⟩ : ByteArray) ++ q := by
  unfold head5
  show txt (_ :: _ :: _ :: _ :: _ :: _ :: _ :: _ :: _ :: _ :: [_]) = _
  rw [txt_two, txt_two, txt_two, txt_two, txt_two, txt_two, txt_two, txt_two, txt_two, txt_two, txt_one]
  apply bytes_eq
  simp only [ByteArray.data_append, Array.toList_append, List.append_assoc]
  rfl
/-- The two texts of a frame are one. -/
theorem text_both (f : Fr) (hr : Rng f) : ∃ T : ByteArray, (∀ W, Own.Tabs W → Calls Tryd.prog 12 #[.agg (FC f)] W fun e w' => e = .returned (.string T) ∧ Below W.heap.size W w') ∧ (∀ W, Own.Tabs W → Calls Tryd.prog 13 #[.agg (FC f)] W fun e w' => e = .returned (.string T) ∧ Below W.heap.size W w') := by
  by_cases hk : 1 ≤ f.kind ∧ f.kind ≤ 5
  · obtain h | h | h | h | h : f.kind = 1 ∨ f.kind = 2 ∨ f.kind = 3 ∨ f.kind = 4 ∨ f.kind = 5 := by omega
    · exact ⟨_, fun W ht => text_plain W f hr (by omega) (by omega) (⟨#[116, 111, 107, 101, 110]⟩ : ByteArray) _ _ _ (by decide) (by rw [h]; exact shape_1) ht, fun W ht => by rw [txt_head]; exact rtext_k1 W f hr ht h⟩
    · exact ⟨_, fun W ht => text_plain W f hr (by omega) (by omega) (⟨#[112, 111, 108, 108]⟩ : ByteArray) _ _ _ (by decide) (by rw [h]; exact shape_2) ht, fun W ht => by rw [txt_head]; exact rtext_k2 W f hr ht h⟩
    · cases hw : f.wants with
      | true => exact ⟨_, fun W ht => text_in W f hr h hw (⟨#[115, 116, 97, 116, 117, 115]⟩ : ByteArray) _ _ _ (by decide) (by rw [h]; exact shape_3) ht, fun W ht => by rw [txt_high _ _ _ _ _ (⟨#[32, 105, 110]⟩ : ByteArray) rfl]; exact rtext_in W f hr ht ⟨h, hw⟩⟩
      | false => exact ⟨_, fun W ht => text_out W f hr h hw (⟨#[115, 116, 97, 116, 117, 115]⟩ : ByteArray) _ _ _ (by decide) (by rw [h]; exact shape_3) ht, fun W ht => by rw [txt_high _ _ _ _ _ (⟨#[32, 111, 117, 116]⟩ : ByteArray) rfl]; exact rtext_out W f hr ht ⟨h, hw⟩⟩
    · exact ⟨_, fun W ht => text_data W f hr h (⟨#[100, 97, 116, 97]⟩ : ByteArray) _ _ _ (by decide) (by rw [h]; exact shape_4) ht, fun W ht => by rw [txt_data]; exact rtext_k4 W f hr ht h⟩
    · exact ⟨_, fun W ht => text_plain W f hr (by omega) (by omega) (⟨#[108, 101, 97, 118, 101]⟩ : ByteArray) _ _ _ (by decide) (by rw [h]; exact shape_5) ht, fun W ht => by rw [txt_head]; exact rtext_k5 W f hr ht h⟩
  · exact ⟨_, fun W ht => text_plain W f hr (by omega) (by omega) (⟨#[63]⟩ : ByteArray) _ _ _ (by decide) (shape_no _ hk) ht, fun W ht => by rw [txt_head]; exact rtext_no W f hr ht hk⟩
theorem makes_long (w : World) (f : Fr) (ht : Own.Tabs w) (h : 100 < f.bytes.size) : Calls Tryd.prog 3 #[.agg (FC f)] w fun e w' => e = .returned (.bool true) ∧ Below w.heap.size w w' := by
  have HA := Aside0.mk awake_f
  have HST := Aside0.mk ((St.start w ht).box f)
  have d1 : decide (100 < (f.bytes.size : Int)) = true := decide_eq_true (by omega)
  clear h ht
  go_enter Tryd.func3, Tryd.ntmps3
  go_upto_region 1 with (fail)
  generalize w.alloc (.cells (FC f) 29) = W0 at *
  generalize w.heap.size = E at *
  go_upto_region 3 with ((go_at_call 8; (with_reducible refine (HA.out _ HST.out.tab).mono ?_); rintro e w1 ⟨rfl, hb⟩; have n0_ := Aside0.mk (HST.out.on hb); clear HST hb; have HST := n0_; clear n0_))
  have c18 : w1.cell? ⟨E, 18, none⟩ = some (.string f.bytes) := blk_cell (HST.out.fr (E, f) (by simp)) 18
  go_wp2
  go_ret
  exact ⟨rfl, HST.out.below⟩
set_option maxHeartbeats 4000000 in
set_option maxRecDepth 100000 in
theorem makes_no (w : World) (f : Fr) (hr : Rng f) (ht : Own.Tabs w) (hb : f.bytes.size ≤ 100) (h : right f = false) : Calls Tryd.prog 3 #[.agg (FC f)] w fun e w' => e = .returned (.bool true) ∧ Below w.heap.size w w' := by
  have HA := Aside0.mk awake_f
  have HST := Aside0.mk ((St.start w ht).box f)
  obtain ⟨T, h12, h13⟩ := text_both f hr
  have HT1 := Aside0.mk h12
  have HT2 := Aside0.mk h13
  have HRR := Aside0.mk fun W : World => rright_f W f hr
  have HRF := Aside0.mk fun W : World => right_f W f
  rw [h] at HRR HRF
  have d1 : decide (100 < (f.bytes.size : Int)) = false := decide_eq_false (by omega)
  have HE := Aside0.mk fun W : World => encode_no W f h
  have HSI := Aside0.mk fun W : World => size_no W f h
  clear h ht hb hr h12 h13
  go_enter Tryd.func3, Tryd.ntmps3
  go_upto_region 1 with (fail)
  generalize w.alloc (.cells (FC f) 29) = W0 at *
  generalize w.heap.size = E at *
  go_upto_region 3 with ((go_at_call 8; (with_reducible refine (HA.out _ HST.out.tab).mono ?_); rintro e w1 ⟨rfl, hb⟩; have n0_ := Aside0.mk (HST.out.on hb); clear HST hb; have HST := n0_; clear n0_))
  have c18 : w1.cell? ⟨E, 18, none⟩ = some (.string f.bytes) := blk_cell (HST.out.fr (E, f) (by simp)) 18
  go_upto_region 6 with (first | ((with_reducible refine gate_dst (N := 15) rfl ?_); refine wpList_load_row rfl 29 (.tmp 1) rfl _ rfl 29 (FC (f)) (0, 0) _ (HST.out.fr (E, f) (by simp)) Tryd.underlying29 rfl (by kernel_rfl) ?_) | (go_at_call 9; (with_reducible refine (HE.out _).mono ?_); rintro e w2 ⟨rfl, hb⟩; clear c18; have n0_ := Aside0.mk (HST.out.on hb); clear HST hb; have HST := n0_; clear n0_))
  go_upto_region 7 with (first | ((with_reducible refine gate_dst (N := 19) rfl ?_); refine wpList_load_row rfl 29 (.tmp 1) rfl _ rfl 29 (FC (f)) (0, 0) _ (HST.out.fr (E, f) (by simp)) Tryd.underlying29 rfl (by kernel_rfl) ?_) | (go_at_call 10; (with_reducible refine (HRR.out _).mono ?_); rintro e w3 ⟨rfl, hb⟩; have n0_ := Aside0.mk (HST.out.on hb); clear HST hb; have HST := n0_; clear n0_))
  refine wp_region_held_drew (S := fun w' => FAt w' E f) (by kernel_rfl) (HST.out.fr (E, f) (by simp)) (fun hHeld => ?_)
  have n0_ := Aside0.mk HST.out.drew
  clear HST
  have HST := n0_
  clear n0_
  refine wpAnyH_take (i := 0) (oi := _) (v := ?vv1) rfl (by kernel_rfl) (by kernel_rfl) (by kernel_rfl) (fun _ _ _ h => h) (Or.inl ⟨by rfl, ?hy1⟩) (by assumption) ?go1
  case hy1 =>
    intro w_ hSw
    exact row_load f E w_ (FAt.range hSw)
  simp only [List.getElem_toArray, List.getElem_cons_succ, List.getElem_cons_zero, Act.put, List.setIfInBounds_toArray, List.set_cons_zero, List.set_cons_succ]
  refine wpAnyH_take (i := 2) (oi := _) (v := ?vv2) rfl (by kernel_rfl) (by kernel_rfl) (by kernel_rfl) (fun _ _ _ h => h) (Or.inl ⟨by rfl, ?hy2⟩) (by assumption) ?go2
  case hy2 =>
    intro w_ hSw
    go_simp
    try with_reducible rfl
  simp only [List.getElem_toArray, List.getElem_cons_succ, List.getElem_cons_zero, Act.put, List.setIfInBounds_toArray, List.set_cons_zero, List.set_cons_succ]
  refine wpAnyH_ready (rs := [1]) (by kernel_rfl) (by simp) ?_
  refine AllReadyH.cons rfl (fun K hK => ?_) AllReadyH.nil
  go_simp
  go_wp2_with (go_at_call 11; (with_reducible refine (HRF.out _).mono ?_); rintro e w4 ⟨rfl, hb⟩; have n0_ := Aside0.mk (HST.out.on hb); clear HST hb; have HST := n0_; clear n0_)
  refine hK.out _ _ (HST.out.fr (E, f) (by simp)) (fun hHeld2 => ?_)
  clear hK K hHeld
  have hHeld := hHeld2
  clear hHeld2
  refine wpAnyH_take (i := 3) (oi := _) (v := ?vv3) rfl (by kernel_rfl) (by kernel_rfl) (by kernel_rfl) (fun _ _ _ h => h) (Or.inl ⟨by rfl, ?hy3⟩) (by assumption) ?go3
  case hy3 =>
    intro w_ hSw
    go_simp
    try with_reducible rfl
  simp only [List.getElem_toArray, List.getElem_cons_succ, List.getElem_cons_zero, Act.put, List.setIfInBounds_toArray, List.set_cons_zero, List.set_cons_succ]
  refine wpAnyH_take (i := 4) (oi := _) (v := ?vv4) rfl (by kernel_rfl) (by kernel_rfl) (by kernel_rfl) (fun _ _ _ h => h) (Or.inl ⟨by rfl, ?hy4⟩) (by assumption) ?go4
  case hy4 =>
    intro w_ hSw
    go_simp
    try with_reducible rfl
  simp only [List.getElem_toArray, List.getElem_cons_succ, List.getElem_cons_zero, Act.put, List.setIfInBounds_toArray, List.set_cons_zero, List.set_cons_succ]
  refine wpAnyH_take (i := 5) (oi := _) (v := ?vv5) rfl (by kernel_rfl) (by kernel_rfl) (by kernel_rfl) (fun _ _ _ h => h) (Or.inl ⟨by rfl, ?hy5⟩) (by assumption) ?go5
  case hy5 =>
    intro w_ hSw
    exact row_load f E w_ (FAt.range hSw)
  simp only [List.getElem_toArray, List.getElem_cons_succ, List.getElem_cons_zero, Act.put, List.setIfInBounds_toArray, List.set_cons_zero, List.set_cons_succ]
  refine wpAnyH_take (i := 7) (oi := _) (v := ?vv6) rfl (by kernel_rfl) (by kernel_rfl) (by kernel_rfl) (fun _ _ _ h => h) (Or.inl ⟨by rfl, ?hy6⟩) (by assumption) ?go6
  case hy6 =>
    intro w_ hSw
    exact row_load f E w_ (FAt.range hSw)
  simp only [List.getElem_toArray, List.getElem_cons_succ, List.getElem_cons_zero, Act.put, List.setIfInBounds_toArray, List.set_cons_zero, List.set_cons_succ]
  refine wpAnyH_ready (rs := [6]) (by kernel_rfl) (by simp) ?_
  refine AllReadyH.cons rfl (fun K hK => ?_) AllReadyH.nil
  go_simp
  go_wp2_with (go_at_call 12; (with_reducible refine (HT1.out _ HST.out.tab).mono ?_); rintro e w5 ⟨rfl, hb⟩; have n0_ := Aside0.mk (HST.out.on hb); clear HST hb; have HST := n0_; clear n0_)
  refine hK.out _ _ (HST.out.fr (E, f) (by simp)) (fun hHeld2 => ?_)
  clear hK K hHeld
  have hHeld := hHeld2
  clear hHeld2
  refine wpAnyH_ready (rs := [8]) (by kernel_rfl) (by simp) ?_
  refine AllReadyH.cons rfl (fun K hK => ?_) AllReadyH.nil
  go_simp
  go_wp2_with (go_at_call 13; (with_reducible refine (HT2.out _ HST.out.tab).mono ?_); rintro e w6 ⟨rfl, hb⟩; have n0_ := Aside0.mk (HST.out.on hb); clear HST hb; have HST := n0_; clear n0_)
  refine hK.out _ _ (HST.out.fr (E, f) (by simp)) (fun hHeld2 => ?_)
  clear hK K hHeld
  have hHeld := hHeld2
  clear hHeld2
  refine wpAnyH_take (i := 9) (oi := _) (v := ?vv7) rfl (by kernel_rfl) (by kernel_rfl) (by kernel_rfl) (fun _ _ _ h => h) (Or.inl ⟨by rfl, ?hy7⟩) (by assumption) ?go7
  case hy7 =>
    intro w_ hSw
    go_simp
    try with_reducible rfl
  simp only [List.getElem_toArray, List.getElem_cons_succ, List.getElem_cons_zero, Act.put, List.setIfInBounds_toArray, List.set_cons_zero, List.set_cons_succ]
  refine wpAnyH_take (i := 10) (oi := _) (v := ?vv8) rfl (by kernel_rfl) (by kernel_rfl) (by kernel_rfl) (fun _ _ _ h => h) (Or.inl ⟨by rfl, ?hy8⟩) (by assumption) ?go8
  case hy8 =>
    intro w_ hSw
    go_simp
    try with_reducible rfl
  simp only [List.getElem_toArray, List.getElem_cons_succ, List.getElem_cons_zero, Act.put, List.setIfInBounds_toArray, List.set_cons_zero, List.set_cons_succ]
  refine wpAnyH_done (by kernel_rfl) ?_ _
  clear hHeld
  go_wp2_with (first | ((with_reducible refine gate_dst (N := 41) rfl ?_); refine gate_guard (by first | rfl | exact wanted_on rfl rfl rfl rfl) ?_; refine wpList_load_row rfl 29 (.tmp 1) rfl _ rfl 29 (FC (f)) (0, 0) _ (HST.out.fr (E, f) (by simp)) Tryd.underlying29 rfl (by kernel_rfl) ?_) | (go_at_call 14; (with_reducible refine (HSI.out _).mono ?_); rintro e w7 ⟨rfl, hb⟩; have n0_ := Aside0.mk (HST.out.on hb); clear HST hb; have HST := n0_; clear n0_))
  all_goals go_ret
  all_goals exact ⟨rfl, HST.out.below⟩
set_option maxHeartbeats 4000000 in
set_option maxRecDepth 100000 in
theorem makes_yes (w : World) (f : Fr) (hr : Rng f) (ht : Own.Tabs w) (hb : f.bytes.size ≤ 100) (h : right f = true) : Calls Tryd.prog 3 #[.agg (FC f)] w fun e w' => e = .returned (.bool true) ∧ Below w.heap.size w w' := by
  have HA := Aside0.mk awake_f
  have HST := Aside0.mk ((St.start w ht).box f)
  obtain ⟨T, h12, h13⟩ := text_both f hr
  have HT1 := Aside0.mk h12
  have HT2 := Aside0.mk h13
  have HRR := Aside0.mk fun W : World => rright_f W f hr
  have HRF := Aside0.mk fun W : World => right_f W f
  rw [h] at HRR HRF
  have d1 : decide (100 < (f.bytes.size : Int)) = false := decide_eq_false (by omega)
  have HE := Aside0.mk fun W : World => enc_r W f h
  have HSI := Aside0.mk fun W : World => size_r W f h
  have hle := encs_le f h
  have HD := Aside0.mk fun W : World => dec_f W (encs f) (by omega)
  rw [(dec_encs f hr h).1, (dec_encs f hr h).2] at HD
  have HBY := Aside0.mk fun (W : World) (ht : Own.Tabs W) => rbytes_f W f hr h ht
  have hz := encs_size f h
  generalize encs f = r at *
  generalize zsz f = z at *
  have q1 : (z == (r.size : Int)) = true := beq_iff_eq.2 hz.symm
  clear h ht hb hr h12 h13 hz hle
  go_enter Tryd.func3, Tryd.ntmps3
  go_upto_region 1 with (fail)
  generalize w.alloc (.cells (FC f) 29) = W0 at *
  generalize w.heap.size = E at *
  go_upto_region 3 with ((go_at_call 8; (with_reducible refine (HA.out _ HST.out.tab).mono ?_); rintro e w1 ⟨rfl, hb⟩; have n0_ := Aside0.mk (HST.out.on hb); clear HST hb; have HST := n0_; clear n0_))
  have c18 : w1.cell? ⟨E, 18, none⟩ = some (.string f.bytes) := blk_cell (HST.out.fr (E, f) (by simp)) 18
  go_upto_region 6 with (first | ((with_reducible refine gate_dst (N := 15) rfl ?_); refine wpList_load_row rfl 29 (.tmp 1) rfl _ rfl 29 (FC (f)) (0, 0) _ (HST.out.fr (E, f) (by simp)) Tryd.underlying29 rfl (by kernel_rfl) ?_) | (go_at_call 9; (with_reducible refine (HE.out _).mono ?_); rintro e w2 ⟨rfl, hb⟩; clear c18; have n0_ := Aside0.mk (HST.out.on hb); clear HST hb; have HST := n0_; clear n0_))
  go_upto_region 7 with (first | ((with_reducible refine gate_dst (N := 19) rfl ?_); refine wpList_load_row rfl 29 (.tmp 1) rfl _ rfl 29 (FC (f)) (0, 0) _ (HST.out.fr (E, f) (by simp)) Tryd.underlying29 rfl (by kernel_rfl) ?_) | (go_at_call 10; (with_reducible refine (HRR.out _).mono ?_); rintro e w3 ⟨rfl, hb⟩; have n0_ := Aside0.mk (HST.out.on hb); clear HST hb; have HST := n0_; clear n0_))
  refine wp_region_held_drew (S := fun w' => FAt w' E f) (by kernel_rfl) (HST.out.fr (E, f) (by simp)) (fun hHeld => ?_)
  have n0_ := Aside0.mk HST.out.drew
  clear HST
  have HST := n0_
  clear n0_
  refine wpAnyH_take (i := 0) (oi := _) (v := ?vv9) rfl (by kernel_rfl) (by kernel_rfl) (by kernel_rfl) (fun _ _ _ h => h) (Or.inl ⟨by rfl, ?hy9⟩) (by assumption) ?go9
  case hy9 =>
    intro w_ hSw
    exact row_load f E w_ (FAt.range hSw)
  simp only [List.getElem_toArray, List.getElem_cons_succ, List.getElem_cons_zero, Act.put, List.setIfInBounds_toArray, List.set_cons_zero, List.set_cons_succ]
  refine wpAnyH_take (i := 2) (oi := _) (v := ?vv10) rfl (by kernel_rfl) (by kernel_rfl) (by kernel_rfl) (fun _ _ _ h => h) (Or.inl ⟨by rfl, ?hy10⟩) (by assumption) ?go10
  case hy10 =>
    intro w_ hSw
    go_simp
    try with_reducible rfl
  simp only [List.getElem_toArray, List.getElem_cons_succ, List.getElem_cons_zero, Act.put, List.setIfInBounds_toArray, List.set_cons_zero, List.set_cons_succ]
  refine wpAnyH_ready (rs := [1]) (by kernel_rfl) (by simp) ?_
  refine AllReadyH.cons rfl (fun K hK => ?_) AllReadyH.nil
  go_simp
  go_wp2_with (go_at_call 11; (with_reducible refine (HRF.out _).mono ?_); rintro e w4 ⟨rfl, hb⟩; have n0_ := Aside0.mk (HST.out.on hb); clear HST hb; have HST := n0_; clear n0_)
  refine hK.out _ _ (HST.out.fr (E, f) (by simp)) (fun hHeld2 => ?_)
  clear hK K hHeld
  have hHeld := hHeld2
  clear hHeld2
  refine wpAnyH_take (i := 3) (oi := _) (v := ?vv11) rfl (by kernel_rfl) (by kernel_rfl) (by kernel_rfl) (fun _ _ _ h => h) (Or.inl ⟨by rfl, ?hy11⟩) (by assumption) ?go11
  case hy11 =>
    intro w_ hSw
    go_simp
    try with_reducible rfl
  simp only [List.getElem_toArray, List.getElem_cons_succ, List.getElem_cons_zero, Act.put, List.setIfInBounds_toArray, List.set_cons_zero, List.set_cons_succ]
  refine wpAnyH_take (i := 4) (oi := _) (v := ?vv12) rfl (by kernel_rfl) (by kernel_rfl) (by kernel_rfl) (fun _ _ _ h => h) (Or.inl ⟨by rfl, ?hy12⟩) (by assumption) ?go12
  case hy12 =>
    intro w_ hSw
    go_simp
    try with_reducible rfl
  simp only [List.getElem_toArray, List.getElem_cons_succ, List.getElem_cons_zero, Act.put, List.setIfInBounds_toArray, List.set_cons_zero, List.set_cons_succ]
  refine wpAnyH_take (i := 5) (oi := _) (v := ?vv13) rfl (by kernel_rfl) (by kernel_rfl) (by kernel_rfl) (fun _ _ _ h => h) (Or.inl ⟨by rfl, ?hy13⟩) (by assumption) ?go13
  case hy13 =>
    intro w_ hSw
    exact row_load f E w_ (FAt.range hSw)
  simp only [List.getElem_toArray, List.getElem_cons_succ, List.getElem_cons_zero, Act.put, List.setIfInBounds_toArray, List.set_cons_zero, List.set_cons_succ]
  refine wpAnyH_take (i := 7) (oi := _) (v := ?vv14) rfl (by kernel_rfl) (by kernel_rfl) (by kernel_rfl) (fun _ _ _ h => h) (Or.inl ⟨by rfl, ?hy14⟩) (by assumption) ?go14
  case hy14 =>
    intro w_ hSw
    exact row_load f E w_ (FAt.range hSw)
  simp only [List.getElem_toArray, List.getElem_cons_succ, List.getElem_cons_zero, Act.put, List.setIfInBounds_toArray, List.set_cons_zero, List.set_cons_succ]
  refine wpAnyH_ready (rs := [6]) (by kernel_rfl) (by simp) ?_
  refine AllReadyH.cons rfl (fun K hK => ?_) AllReadyH.nil
  go_simp
  go_wp2_with (go_at_call 12; (with_reducible refine (HT1.out _ HST.out.tab).mono ?_); rintro e w5 ⟨rfl, hb⟩; have n0_ := Aside0.mk (HST.out.on hb); clear HST hb; have HST := n0_; clear n0_)
  refine hK.out _ _ (HST.out.fr (E, f) (by simp)) (fun hHeld2 => ?_)
  clear hK K hHeld
  have hHeld := hHeld2
  clear hHeld2
  refine wpAnyH_ready (rs := [8]) (by kernel_rfl) (by simp) ?_
  refine AllReadyH.cons rfl (fun K hK => ?_) AllReadyH.nil
  go_simp
  go_wp2_with (go_at_call 13; (with_reducible refine (HT2.out _ HST.out.tab).mono ?_); rintro e w6 ⟨rfl, hb⟩; have n0_ := Aside0.mk (HST.out.on hb); clear HST hb; have HST := n0_; clear n0_)
  refine hK.out _ _ (HST.out.fr (E, f) (by simp)) (fun hHeld2 => ?_)
  clear hK K hHeld
  have hHeld := hHeld2
  clear hHeld2
  refine wpAnyH_take (i := 9) (oi := _) (v := ?vv15) rfl (by kernel_rfl) (by kernel_rfl) (by kernel_rfl) (fun _ _ _ h => h) (Or.inl ⟨by rfl, ?hy15⟩) (by assumption) ?go15
  case hy15 =>
    intro w_ hSw
    go_simp
    try with_reducible rfl
  simp only [List.getElem_toArray, List.getElem_cons_succ, List.getElem_cons_zero, Act.put, List.setIfInBounds_toArray, List.set_cons_zero, List.set_cons_succ]
  refine wpAnyH_take (i := 10) (oi := _) (v := ?vv16) rfl (by kernel_rfl) (by kernel_rfl) (by kernel_rfl) (fun _ _ _ h => h) (Or.inl ⟨by rfl, ?hy16⟩) (by assumption) ?go16
  case hy16 =>
    intro w_ hSw
    go_simp
    try with_reducible rfl
  simp only [List.getElem_toArray, List.getElem_cons_succ, List.getElem_cons_zero, Act.put, List.setIfInBounds_toArray, List.set_cons_zero, List.set_cons_succ]
  refine wpAnyH_done (by kernel_rfl) ?_ _
  clear hHeld
  go_upto_region 12 with (first | (go_at_call 15; (with_reducible refine (HD.out _).mono ?_); rintro e w7 ⟨rfl, hb⟩; obtain ⟨W_, hW, hlk, hst⟩ := (HST.out.on hb).new (f); have HW := Aside0.mk hW; have HLK := Aside0.mk hlk; clear HST hb hW hlk; have HST := Aside0.mk hst; clear hst) | ((with_reducible refine gate_store (t := 29) (p := 6) rfl ?_); refine wpList_store_row rfl 29 (.tmp 6) (.tmp 48) rfl _ (FC (f)) rfl rfl 29 _ HLK.out (by kernel_rfl) rfl (fc_one _) ?_; refine (congrArg (fun W => wpList Tryd.prog _ _ _ _ W) HW.out).mpr ?_; clear HW HLK))
  generalize w7.heap.size = E2 at *
  go_wp2_with (first | ((with_reducible refine gate_dst (N := 54) rfl ?_); refine gate_guard (by first | rfl | exact wanted_on rfl rfl rfl rfl) ?_; refine wpList_load_row rfl 29 (.tmp 1) rfl _ rfl 29 (FC (f)) (0, 0) _ (HST.out.fr (E, f) (by simp)) Tryd.underlying29 rfl (by kernel_rfl) ?_) | (go_at_call 16; (with_reducible refine (HBY.out _ HST.out.tab).mono ?_); rintro e w8 ⟨rfl, hb⟩; have n0_ := Aside0.mk (HST.out.on hb); clear HST hb; have HST := n0_; clear n0_) | ((with_reducible refine gate_dst (N := 59) rfl ?_); refine gate_guard (by first | rfl | exact wanted_on rfl rfl rfl rfl) ?_; refine wpList_load_row rfl 29 (.tmp 1) rfl _ rfl 29 (FC (f)) (0, 0) _ (HST.out.fr (E, f) (by simp)) Tryd.underlying29 rfl (by kernel_rfl) ?_) | (go_at_call 14; (with_reducible refine (HSI.out _).mono ?_); rintro e w9 ⟨rfl, hb⟩; have n0_ := Aside0.mk (HST.out.on hb); clear HST hb; have HST := n0_; clear n0_) | ((with_reducible refine gate_dst (N := 70) rfl ?_); refine gate_guard (by first | rfl | exact wanted_on rfl rfl rfl rfl) ?_; refine wpList_load_row rfl 29 (.tmp 1) rfl _ rfl 29 (FC (f)) (0, 0) _ (HST.out.fr (E, f) (by simp)) Tryd.underlying29 rfl (by kernel_rfl) ?_) | ((with_reducible refine gate_dst (N := 71) rfl ?_); refine gate_guard (by first | rfl | exact wanted_on rfl rfl rfl rfl) ?_; refine wpList_load_row rfl 29 (.tmp 6) rfl _ rfl 29 (FC (f)) (0, 0) _ (HST.out.fr (E2, f) (by simp)) Tryd.underlying29 rfl (by kernel_rfl) ?_))
  all_goals go_ret
  all_goals exact ⟨rfl, HST.out.below⟩
theorem makes_f (w : World) (f : Fr) (hr : Rng f) (ht : Own.Tabs w) : Calls Tryd.prog 3 #[.agg (FC f)] w fun e w' => e = .returned (.bool true) ∧ Below w.heap.size w w' := by
  by_cases hb : 100 < f.bytes.size
  · exact makes_long w f ht hb
  · cases h : right f with
    | false => exact makes_no w f hr ht (by omega) h
    | true => exact makes_yes w f hr ht (by omega) h
end Go.Proofs.YtkcaifpmceoflaaDoor.Frm

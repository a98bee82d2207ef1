/- The walk of the law FrameCuts. Conditions: those that each statement names. -/
import Derived.Test.YtkcaifpmceoflaaDoorWaked
namespace Go.Proofs.YtkcaifpmceoflaaDoor.Frm
open Go.RowKit Go.Proofs.YtkcaifpmceoflaaDoorW.PrintWords Go.Proofs.YtkcaifpmceoflaaDoorW.PrintLast Go.Proofs.YtkcaifpmceoflaaDoorW.PrintMore
set_option linter.unusedVariables false
set_option linter.unusedSimpArgs false
abbrev ZC : Array Value := #[.int .i64 0, .int .u8 0, .int .u8 0, .int .u16 0, .int .u16 0, .int .u16 0, .int .u8 0, .int .u16 0, .int .u16 0, .int .u16 0, .int .u8 0, .int .u16 0, .bool false, .int .u8 0, .int .u16 0, .int .u32 0, .int .u8 0, .int .u8 0, .string ⟨#[]⟩]
theorem fc_fz : FC fz = ZC := rfl
theorem cuts_no (w : World) (f : Fr) (c : Int) (m : ByteArray) (ht : Own.Tabs w) (h : right f = false) :
    Calls Tryd.prog 6 #[.agg (FC f), .int .i64 c, .string m] w fun e w' => e = .returned (.bool true) ∧ Below w.heap.size w w' := by
  have HA := Aside0.mk awake_f
  have HE := Aside0.mk fun W : World => encode_no W f h
  have HST := Aside0.mk ((St.start w ht).box f)
  have HB := Aside0.mk ht
  clear h ht
  go_enter Tryd.func6, Tryd.ntmps6
  go_upto_region 1 with (fail)
  generalize w.alloc (.cells (FC f) 29) = W0 at *
  generalize w.heap.size = E at *
  go_upto_region 3 with ((go_at_call 8; (with_reducible refine (HA.out _ HST.out.tab).mono ?_); rintro e w1 ⟨rfl, hb⟩; have n0_ := Aside0.mk (HST.out.on hb); clear HST hb; have HST := n0_; clear n0_))
  go_upto_region 4 with (first | ((with_reducible refine gate_dst (N := 16) rfl ?_); refine wpList_load_row rfl 29 (.tmp 3) rfl _ rfl 29 (FC (f)) (0, 0) _ (HST.out.fr (E, f) (by simp)) Tryd.underlying29 rfl (by kernel_rfl) ?_) | (go_at_call 9; (with_reducible refine (HE.out _).mono ?_); rintro e w2 ⟨rfl, hb⟩; have n0_ := Aside0.mk (HST.out.on hb); clear HST hb; have HST := n0_; clear n0_))
  go_wp2
  go_ret
  exact ⟨rfl, HST.out.below⟩
theorem cuts_long (w : World) (f : Fr) (c : Int) (m : ByteArray) (ht : Own.Tabs w) (h : right f = true) (hm : 60 < m.size) :
    Calls Tryd.prog 6 #[.agg (FC f), .int .i64 c, .string m] w fun e w' => e = .returned (.bool true) ∧ Below w.heap.size w w' := by
  have HA := Aside0.mk awake_f
  have HE := Aside0.mk fun W : World => enc_r W f h
  have HST := Aside0.mk ((St.start w ht).box f)
  have HB := Aside0.mk ht
  have d1 : decide (60 < (m.size : Int)) = true := decide_eq_true (by omega)
  generalize encs f = r at *
  clear h hm ht
  go_enter Tryd.func6, Tryd.ntmps6
  go_upto_region 1 with (fail)
  generalize w.alloc (.cells (FC f) 29) = W0 at *
  generalize w.heap.size = E at *
  go_upto_region 3 with ((go_at_call 8; (with_reducible refine (HA.out _ HST.out.tab).mono ?_); rintro e w1 ⟨rfl, hb⟩; have n0_ := Aside0.mk (HST.out.on hb); clear HST hb; have HST := n0_; clear n0_))
  go_upto_region 4 with (first | ((with_reducible refine gate_dst (N := 16) rfl ?_); refine wpList_load_row rfl 29 (.tmp 3) rfl _ rfl 29 (FC (f)) (0, 0) _ (HST.out.fr (E, f) (by simp)) Tryd.underlying29 rfl (by kernel_rfl) ?_) | (go_at_call 9; (with_reducible refine (HE.out _).mono ?_); rintro e w2 ⟨rfl, hb⟩; have n0_ := Aside0.mk (HST.out.on hb); clear HST hb; have HST := n0_; clear n0_))
  go_wp2
  go_ret
  exact ⟨rfl, HST.out.below⟩
set_option maxHeartbeats 1000000 in
theorem cuts_aa (w : World) (f : Fr) (hr : Rng f) (c : Nat) (m : ByteArray) (ht : Own.Tabs w) (h : right f = true) (hm : m.size ≤ 60) (hc : c < (encs f).size) (hs : m = ⟨#[]⟩) :
    Calls Tryd.prog 6 #[.agg (FC f), .int .i64 (c : Int), .string m] w fun e w' => e = .returned (.bool true) ∧ Below w.heap.size w w' := by
  have HA := Aside0.mk awake_f
  have HE := Aside0.mk fun W : World => enc_r W f h
  have HST := Aside0.mk ((St.start w ht).box f)
  have HB := Aside0.mk ht
  have hle := encs_le f h
  have d1 : decide (60 < (m.size : Int)) = false := decide_eq_false (by omega)
  subst hs
  have HD := Aside0.mk fun W : World => dec_f W (encs f ++ ⟨#[]⟩) (by rw [ByteArray.size_append]; show _ + 0 ≤ _; omega)
  rw [show encs f ++ ⟨#[]⟩ = encs f from ByteArray.ext (by rw [ByteArray.data_append]; exact Array.append_empty), (dec_encs f hr h).1, (dec_encs f hr h).2] at HD
  have hap : encs f ++ (⟨#[]⟩ : ByteArray) = encs f := ByteArray.ext (by rw [ByteArray.data_append]; exact Array.append_empty)
  have HC := Aside0.mk fun W : World => dec_f W ((encs f).extract 0 c) (by rw [ByteArray.size_extract]; omega)
  rw [(derr_len _ (cut_len f hr h c hc)).1, (derr_len _ (cut_len f hr h c hc)).2, fc_fz] at HC
  have hsl : ∀ W : World, (Instr.slice 9 (.string (encs f)) none (some (.int .i64 (c : Int))) none).run Tryd.prog W = .ok (.string ((encs f).extract 0 c)) W := fun W => by
    rw [run_slice_string_to_if W 9 (encs f) .i64 (c : Int) Tryd.underlying9, if_pos (by omega), Int.toNat_natCast]
  have d2 : decide ((c : Int) < ((encs f).size : Int)) = true := decide_eq_true (by omega)
  have d3 : decide (c < (encs f).size) = true := decide_eq_true (by omega)
  generalize (encs f).extract 0 c = rc at *
  have hsz : (encs f).size ≤ 42 := hle.2
  generalize encs f = r at *
  clear h ht hr hle hm hc
  go_enter Tryd.func6, Tryd.ntmps6
  go_upto_region 1 with (fail)
  generalize w.alloc (.cells (FC f) 29) = W0 at *
  generalize w.heap.size = E at *
  go_upto_region 3 with ((go_at_call 8; (with_reducible refine (HA.out _ HST.out.tab).mono ?_); rintro e w1 ⟨rfl, hb⟩; have n0_ := Aside0.mk (HST.out.on hb); clear HST hb; have HST := n0_; clear n0_))
  go_upto_region 4 with (first | ((with_reducible refine gate_dst (N := 16) rfl ?_); refine wpList_load_row rfl 29 (.tmp 3) rfl _ rfl 29 (FC (f)) (0, 0) _ (HST.out.fr (E, f) (by simp)) Tryd.underlying29 rfl (by kernel_rfl) ?_) | (go_at_call 9; (with_reducible refine (HE.out _).mono ?_); rintro e w2 ⟨rfl, hb⟩; have n0_ := Aside0.mk (HST.out.on hb); clear HST hb; have HST := n0_; clear n0_))
  go_upto_region 8 with (first | (go_at_call 15; (with_reducible refine (HC.out _).mono ?_); rintro e w3 ⟨rfl, hb⟩; obtain ⟨W_, hW, hlk, hst⟩ := (HST.out.on hb).new (fz); have HW := Aside0.mk hW; have HLK := Aside0.mk hlk; clear HST hb hW hlk; have HST := Aside0.mk hst; clear hst) | ((with_reducible refine gate_store (t := 29) (p := 9) rfl ?_); refine wpList_store_row rfl 29 (.tmp 9) (.tmp 40) rfl _ (ZC) rfl rfl 29 _ HLK.out (by kernel_rfl) rfl (by kernel_rfl) ?_; refine (congrArg (fun W => wpList Tryd.prog _ _ _ _ W) HW.out).mpr ?_; clear HW HLK))
  generalize w3.heap.size = E3 at *
  go_upto_region 10 with (((with_reducible refine gate_dst (N := 45) rfl ?_); refine gate_guard (by first | rfl | exact wanted_on rfl rfl rfl rfl) ?_; refine wpList_load_row rfl 29 (.tmp 9) rfl _ rfl 29 (ZC) (0, 0) _ (HST.out.fr (E3, fz) (by simp)) Tryd.underlying29 rfl (by kernel_rfl) ?_))
  go_upto_region 11 with (first | (go_at_call 15; (with_reducible refine (HD.out _).mono ?_); rintro e w4 ⟨rfl, hb⟩; obtain ⟨W_, hW, hlk, hst⟩ := (HST.out.on hb).new (f); have HW := Aside0.mk hW; have HLK := Aside0.mk hlk; clear HST hb hW hlk; have HST := Aside0.mk hst; clear hst) | ((with_reducible refine gate_store (t := 29) (p := 11) rfl ?_); refine wpList_store_row rfl 29 (.tmp 11) (.tmp 54) rfl _ (FC (f)) rfl rfl 29 _ HLK.out (by kernel_rfl) rfl (fc_one _) ?_; refine (congrArg (fun W => wpList Tryd.prog _ _ _ _ W) HW.out).mpr ?_; clear HW HLK))
  generalize w4.heap.size = E4 at *
  go_wp2_with (first | ((with_reducible refine gate_dst (N := 63) rfl ?_); refine gate_guard (by first | rfl | exact wanted_on rfl rfl rfl rfl) ?_; refine wpList_load_row rfl 29 (.tmp 11) rfl _ rfl 29 (FC (f)) (0, 0) _ (HST.out.fr (E4, f) (by simp)) Tryd.underlying29 rfl (by kernel_rfl) ?_) | ((with_reducible refine gate_dst (N := 64) rfl ?_); refine gate_guard (by first | rfl | exact wanted_on rfl rfl rfl rfl) ?_; refine wpList_load_row rfl 29 (.tmp 3) rfl _ rfl 29 (FC (f)) (0, 0) _ (HST.out.fr (E, f) (by simp)) Tryd.underlying29 rfl (by kernel_rfl) ?_) | ((with_reducible refine gate_dst (N := 75) rfl ?_); refine gate_guard (by first | rfl | exact wanted_on rfl rfl rfl rfl) ?_; refine wpList_load_row rfl 29 (.tmp 11) rfl _ rfl 29 (FC (f)) (0, 0) _ (HST.out.fr (E4, f) (by simp)) Tryd.underlying29 rfl (by kernel_rfl) ?_))
  all_goals go_ret
  all_goals exact ⟨rfl, HST.out.below⟩
set_option maxHeartbeats 1000000 in
theorem cuts_ab (w : World) (f : Fr) (hr : Rng f) (c : Nat) (m : ByteArray) (ht : Own.Tabs w) (h : right f = true) (hm : m.size ≤ 60) (hc : c < (encs f).size) (hs : m.size ≠ 0) :
    Calls Tryd.prog 6 #[.agg (FC f), .int .i64 (c : Int), .string m] w fun e w' => e = .returned (.bool true) ∧ Below w.heap.size w w' := by
  have HA := Aside0.mk awake_f
  have HE := Aside0.mk fun W : World => enc_r W f h
  have HST := Aside0.mk ((St.start w ht).box f)
  have HB := Aside0.mk ht
  have hle := encs_le f h
  have d1 : decide (60 < (m.size : Int)) = false := decide_eq_false (by omega)
  have HD := Aside0.mk fun W : World => dec_f W (encs f ++ m) (by rw [ByteArray.size_append]; omega)
  rw [(derr_len _ (more_len f hr h m hs)).1, (derr_len _ (more_len f hr h m hs)).2, fc_fz] at HD
  have m1 : (m.toList == ([] : List UInt8)) = false := by rw [toList_nil]; exact decide_eq_false hs
  have m2 : (m.toList != ([] : List UInt8)) = true := by rw [bne, m1]; rfl
  have m3 : m.toList.isEmpty = false := by rw [← m1]; cases m.toList <;> rfl
  have HC := Aside0.mk fun W : World => dec_f W ((encs f).extract 0 c) (by rw [ByteArray.size_extract]; omega)
  rw [(derr_len _ (cut_len f hr h c hc)).1, (derr_len _ (cut_len f hr h c hc)).2, fc_fz] at HC
  have hsl : ∀ W : World, (Instr.slice 9 (.string (encs f)) none (some (.int .i64 (c : Int))) none).run Tryd.prog W = .ok (.string ((encs f).extract 0 c)) W := fun W => by
    rw [run_slice_string_to_if W 9 (encs f) .i64 (c : Int) Tryd.underlying9, if_pos (by omega), Int.toNat_natCast]
  have d2 : decide ((c : Int) < ((encs f).size : Int)) = true := decide_eq_true (by omega)
  have d3 : decide (c < (encs f).size) = true := decide_eq_true (by omega)
  generalize (encs f).extract 0 c = rc at *
  have s1 : (9223372036854775807 < (encs f).size + m.size) = False := eq_false (by omega)
  have hsz : (encs f).size ≤ 42 := hle.2
  generalize encs f = r at *
  clear h ht hr hle hs hm hc
  go_enter Tryd.func6, Tryd.ntmps6
  go_upto_region 1 with (fail)
  generalize w.alloc (.cells (FC f) 29) = W0 at *
  generalize w.heap.size = E at *
  go_upto_region 3 with ((go_at_call 8; (with_reducible refine (HA.out _ HST.out.tab).mono ?_); rintro e w1 ⟨rfl, hb⟩; have n0_ := Aside0.mk (HST.out.on hb); clear HST hb; have HST := n0_; clear n0_))
  go_upto_region 4 with (first | ((with_reducible refine gate_dst (N := 16) rfl ?_); refine wpList_load_row rfl 29 (.tmp 3) rfl _ rfl 29 (FC (f)) (0, 0) _ (HST.out.fr (E, f) (by simp)) Tryd.underlying29 rfl (by kernel_rfl) ?_) | (go_at_call 9; (with_reducible refine (HE.out _).mono ?_); rintro e w2 ⟨rfl, hb⟩; have n0_ := Aside0.mk (HST.out.on hb); clear HST hb; have HST := n0_; clear n0_))
  go_upto_region 8 with (first | (go_at_call 15; (with_reducible refine (HC.out _).mono ?_); rintro e w3 ⟨rfl, hb⟩; obtain ⟨W_, hW, hlk, hst⟩ := (HST.out.on hb).new (fz); have HW := Aside0.mk hW; have HLK := Aside0.mk hlk; clear HST hb hW hlk; have HST := Aside0.mk hst; clear hst) | ((with_reducible refine gate_store (t := 29) (p := 9) rfl ?_); refine wpList_store_row rfl 29 (.tmp 9) (.tmp 40) rfl _ (ZC) rfl rfl 29 _ HLK.out (by kernel_rfl) rfl (by kernel_rfl) ?_; refine (congrArg (fun W => wpList Tryd.prog _ _ _ _ W) HW.out).mpr ?_; clear HW HLK))
  generalize w3.heap.size = E3 at *
  go_upto_region 10 with (((with_reducible refine gate_dst (N := 45) rfl ?_); refine gate_guard (by first | rfl | exact wanted_on rfl rfl rfl rfl) ?_; refine wpList_load_row rfl 29 (.tmp 9) rfl _ rfl 29 (ZC) (0, 0) _ (HST.out.fr (E3, fz) (by simp)) Tryd.underlying29 rfl (by kernel_rfl) ?_))
  go_upto_region 11 with (first | (go_at_call 15; (with_reducible refine (HD.out _).mono ?_); rintro e w4 ⟨rfl, hb⟩; obtain ⟨W_, hW, hlk, hst⟩ := (HST.out.on hb).new (fz); have HW := Aside0.mk hW; have HLK := Aside0.mk hlk; clear HST hb hW hlk; have HST := Aside0.mk hst; clear hst) | ((with_reducible refine gate_store (t := 29) (p := 11) rfl ?_); refine wpList_store_row rfl 29 (.tmp 11) (.tmp 54) rfl _ (ZC) rfl rfl 29 _ HLK.out (by kernel_rfl) rfl (by kernel_rfl) ?_; refine (congrArg (fun W => wpList Tryd.prog _ _ _ _ W) HW.out).mpr ?_; clear HW HLK))
  generalize w4.heap.size = E4 at *
  go_wp2_with (first | ((with_reducible refine gate_dst (N := 63) rfl ?_); refine gate_guard (by first | rfl | exact wanted_on rfl rfl rfl rfl) ?_; refine wpList_load_row rfl 29 (.tmp 11) rfl _ rfl 29 (ZC) (0, 0) _ (HST.out.fr (E4, fz) (by simp)) Tryd.underlying29 rfl (by kernel_rfl) ?_) | ((with_reducible refine gate_dst (N := 64) rfl ?_); refine gate_guard (by first | rfl | exact wanted_on rfl rfl rfl rfl) ?_; refine wpList_load_row rfl 29 (.tmp 3) rfl _ rfl 29 (FC (f)) (0, 0) _ (HST.out.fr (E, f) (by simp)) Tryd.underlying29 rfl (by kernel_rfl) ?_) | ((with_reducible refine gate_dst (N := 75) rfl ?_); refine gate_guard (by first | rfl | exact wanted_on rfl rfl rfl rfl) ?_; refine wpList_load_row rfl 29 (.tmp 11) rfl _ rfl 29 (ZC) (0, 0) _ (HST.out.fr (E4, fz) (by simp)) Tryd.underlying29 rfl (by kernel_rfl) ?_))
  all_goals go_ret
  all_goals exact ⟨rfl, HST.out.below⟩
set_option maxHeartbeats 1000000 in
theorem cuts_ba (w : World) (f : Fr) (hr : Rng f) (c : Int) (m : ByteArray) (ht : Own.Tabs w) (h : right f = true) (hm : m.size ≤ 60) (hc : ¬ (0 ≤ c ∧ c < (encs f).size)) (hs : m = ⟨#[]⟩) :
    Calls Tryd.prog 6 #[.agg (FC f), .int .i64 c, .string m] w fun e w' => e = .returned (.bool true) ∧ Below w.heap.size w w' := by
  have HA := Aside0.mk awake_f
  have HE := Aside0.mk fun W : World => enc_r W f h
  have HST := Aside0.mk ((St.start w ht).box f)
  have HB := Aside0.mk ht
  have hle := encs_le f h
  have d1 : decide (60 < (m.size : Int)) = false := decide_eq_false (by omega)
  subst hs
  have HD := Aside0.mk fun W : World => dec_f W (encs f ++ ⟨#[]⟩) (by rw [ByteArray.size_append]; show _ + 0 ≤ _; omega)
  rw [show encs f ++ ⟨#[]⟩ = encs f from ByteArray.ext (by rw [ByteArray.data_append]; exact Array.append_empty), (dec_encs f hr h).1, (dec_encs f hr h).2] at HD
  have hap : encs f ++ (⟨#[]⟩ : ByteArray) = encs f := ByteArray.ext (by rw [ByteArray.data_append]; exact Array.append_empty)
  have d2 : (decide (0 ≤ c) && decide (c < ((encs f).size : Int))) = false := by rw [Bool.eq_false_iff]; intro h; rw [Bool.and_eq_true, decide_eq_true_eq, decide_eq_true_eq] at h; exact hc h
  have hsz : (encs f).size ≤ 42 := hle.2
  generalize encs f = r at *
  clear h ht hr hle hm hc
  go_enter Tryd.func6, Tryd.ntmps6
  go_upto_region 1 with (fail)
  generalize w.alloc (.cells (FC f) 29) = W0 at *
  generalize w.heap.size = E at *
  go_upto_region 3 with ((go_at_call 8; (with_reducible refine (HA.out _ HST.out.tab).mono ?_); rintro e w1 ⟨rfl, hb⟩; have n0_ := Aside0.mk (HST.out.on hb); clear HST hb; have HST := n0_; clear n0_))
  go_upto_region 4 with (first | ((with_reducible refine gate_dst (N := 16) rfl ?_); refine wpList_load_row rfl 29 (.tmp 3) rfl _ rfl 29 (FC (f)) (0, 0) _ (HST.out.fr (E, f) (by simp)) Tryd.underlying29 rfl (by kernel_rfl) ?_) | (go_at_call 9; (with_reducible refine (HE.out _).mono ?_); rintro e w2 ⟨rfl, hb⟩; have n0_ := Aside0.mk (HST.out.on hb); clear HST hb; have HST := n0_; clear n0_))
  by_cases c0 : 0 ≤ c
  · have c1 : decide (c < (r.size : Int)) = false := by rw [decide_eq_true c0, Bool.true_and] at d2; exact d2
    clear d2
    have c2 : decide (0 ≤ c) = true := decide_eq_true c0
    clear c0
    go_upto_region 11 with (first | (go_at_call 15; (with_reducible refine (HD.out _).mono ?_); rintro e w4 ⟨rfl, hb⟩; obtain ⟨W_, hW, hlk, hst⟩ := (HST.out.on hb).new (f); have HW := Aside0.mk hW; have HLK := Aside0.mk hlk; clear HST hb hW hlk; have HST := Aside0.mk hst; clear hst) | ((with_reducible refine gate_store (t := 29) (p := 11) rfl ?_); refine wpList_store_row rfl 29 (.tmp 11) (.tmp 54) rfl _ (FC (f)) rfl rfl 29 _ HLK.out (by kernel_rfl) rfl (fc_one _) ?_; refine (congrArg (fun W => wpList Tryd.prog _ _ _ _ W) HW.out).mpr ?_; clear HW HLK))
    generalize w4.heap.size = E4 at *
    go_wp2_with (first | ((with_reducible refine gate_dst (N := 63) rfl ?_); refine gate_guard (by first | rfl | exact wanted_on rfl rfl rfl rfl) ?_; refine wpList_load_row rfl 29 (.tmp 11) rfl _ rfl 29 (FC (f)) (0, 0) _ (HST.out.fr (E4, f) (by simp)) Tryd.underlying29 rfl (by kernel_rfl) ?_) | ((with_reducible refine gate_dst (N := 64) rfl ?_); refine gate_guard (by first | rfl | exact wanted_on rfl rfl rfl rfl) ?_; refine wpList_load_row rfl 29 (.tmp 3) rfl _ rfl 29 (FC (f)) (0, 0) _ (HST.out.fr (E, f) (by simp)) Tryd.underlying29 rfl (by kernel_rfl) ?_) | ((with_reducible refine gate_dst (N := 75) rfl ?_); refine gate_guard (by first | rfl | exact wanted_on rfl rfl rfl rfl) ?_; refine wpList_load_row rfl 29 (.tmp 11) rfl _ rfl 29 (FC (f)) (0, 0) _ (HST.out.fr (E4, f) (by simp)) Tryd.underlying29 rfl (by kernel_rfl) ?_))
    all_goals go_ret
    all_goals exact ⟨rfl, HST.out.below⟩
  · clear d2
    have c2 : decide (0 ≤ c) = false := decide_eq_false c0
    clear c0
    go_upto_region 11 with (first | (go_at_call 15; (with_reducible refine (HD.out _).mono ?_); rintro e w4 ⟨rfl, hb⟩; obtain ⟨W_, hW, hlk, hst⟩ := (HST.out.on hb).new (f); have HW := Aside0.mk hW; have HLK := Aside0.mk hlk; clear HST hb hW hlk; have HST := Aside0.mk hst; clear hst) | ((with_reducible refine gate_store (t := 29) (p := 11) rfl ?_); refine wpList_store_row rfl 29 (.tmp 11) (.tmp 54) rfl _ (FC (f)) rfl rfl 29 _ HLK.out (by kernel_rfl) rfl (fc_one _) ?_; refine (congrArg (fun W => wpList Tryd.prog _ _ _ _ W) HW.out).mpr ?_; clear HW HLK))
    generalize w4.heap.size = E4 at *
    go_wp2_with (first | ((with_reducible refine gate_dst (N := 63) rfl ?_); refine gate_guard (by first | rfl | exact wanted_on rfl rfl rfl rfl) ?_; refine wpList_load_row rfl 29 (.tmp 11) rfl _ rfl 29 (FC (f)) (0, 0) _ (HST.out.fr (E4, f) (by simp)) Tryd.underlying29 rfl (by kernel_rfl) ?_) | ((with_reducible refine gate_dst (N := 64) rfl ?_); refine gate_guard (by first | rfl | exact wanted_on rfl rfl rfl rfl) ?_; refine wpList_load_row rfl 29 (.tmp 3) rfl _ rfl 29 (FC (f)) (0, 0) _ (HST.out.fr (E, f) (by simp)) Tryd.underlying29 rfl (by kernel_rfl) ?_) | ((with_reducible refine gate_dst (N := 75) rfl ?_); refine gate_guard (by first | rfl | exact wanted_on rfl rfl rfl rfl) ?_; refine wpList_load_row rfl 29 (.tmp 11) rfl _ rfl 29 (FC (f)) (0, 0) _ (HST.out.fr (E4, f) (by simp)) Tryd.underlying29 rfl (by kernel_rfl) ?_))
    all_goals go_ret
    all_goals exact ⟨rfl, HST.out.below⟩
set_option maxHeartbeats 1000000 in
theorem cuts_bb (w : World) (f : Fr) (hr : Rng f) (c : Int) (m : ByteArray) (ht : Own.Tabs w) (h : right f = true) (hm : m.size ≤ 60) (hc : ¬ (0 ≤ c ∧ c < (encs f).size)) (hs : m.size ≠ 0) :
    Calls Tryd.prog 6 #[.agg (FC f), .int .i64 c, .string m] w fun e w' => e = .returned (.bool true) ∧ Below w.heap.size w w' := by
  have HA := Aside0.mk awake_f
  have HE := Aside0.mk fun W : World => enc_r W f h
  have HST := Aside0.mk ((St.start w ht).box f)
  have HB := Aside0.mk ht
  have hle := encs_le f h
  have d1 : decide (60 < (m.size : Int)) = false := decide_eq_false (by omega)
  have HD := Aside0.mk fun W : World => dec_f W (encs f ++ m) (by rw [ByteArray.size_append]; omega)
  rw [(derr_len _ (more_len f hr h m hs)).1, (derr_len _ (more_len f hr h m hs)).2, fc_fz] at HD
  have m1 : (m.toList == ([] : List UInt8)) = false := by rw [toList_nil]; exact decide_eq_false hs
  have m2 : (m.toList != ([] : List UInt8)) = true := by rw [bne, m1]; rfl
  have m3 : m.toList.isEmpty = false := by rw [← m1]; cases m.toList <;> rfl
  have d2 : (decide (0 ≤ c) && decide (c < ((encs f).size : Int))) = false := by rw [Bool.eq_false_iff]; intro h; rw [Bool.and_eq_true, decide_eq_true_eq, decide_eq_true_eq] at h; exact hc h
  have s1 : (9223372036854775807 < (encs f).size + m.size) = False := eq_false (by omega)
  have hsz : (encs f).size ≤ 42 := hle.2
  generalize encs f = r at *
  clear h ht hr hle hs hm hc
  go_enter Tryd.func6, Tryd.ntmps6
  go_upto_region 1 with (fail)
  generalize w.alloc (.cells (FC f) 29) = W0 at *
  generalize w.heap.size = E at *
  go_upto_region 3 with ((go_at_call 8; (with_reducible refine (HA.out _ HST.out.tab).mono ?_); rintro e w1 ⟨rfl, hb⟩; have n0_ := Aside0.mk (HST.out.on hb); clear HST hb; have HST := n0_; clear n0_))
  go_upto_region 4 with (first | ((with_reducible refine gate_dst (N := 16) rfl ?_); refine wpList_load_row rfl 29 (.tmp 3) rfl _ rfl 29 (FC (f)) (0, 0) _ (HST.out.fr (E, f) (by simp)) Tryd.underlying29 rfl (by kernel_rfl) ?_) | (go_at_call 9; (with_reducible refine (HE.out _).mono ?_); rintro e w2 ⟨rfl, hb⟩; have n0_ := Aside0.mk (HST.out.on hb); clear HST hb; have HST := n0_; clear n0_))
  by_cases c0 : 0 ≤ c
  · have c1 : decide (c < (r.size : Int)) = false := by rw [decide_eq_true c0, Bool.true_and] at d2; exact d2
    clear d2
    have c2 : decide (0 ≤ c) = true := decide_eq_true c0
    clear c0
    go_upto_region 11 with (first | (go_at_call 15; (with_reducible refine (HD.out _).mono ?_); rintro e w4 ⟨rfl, hb⟩; obtain ⟨W_, hW, hlk, hst⟩ := (HST.out.on hb).new (fz); have HW := Aside0.mk hW; have HLK := Aside0.mk hlk; clear HST hb hW hlk; have HST := Aside0.mk hst; clear hst) | ((with_reducible refine gate_store (t := 29) (p := 11) rfl ?_); refine wpList_store_row rfl 29 (.tmp 11) (.tmp 54) rfl _ (ZC) rfl rfl 29 _ HLK.out (by kernel_rfl) rfl (by kernel_rfl) ?_; refine (congrArg (fun W => wpList Tryd.prog _ _ _ _ W) HW.out).mpr ?_; clear HW HLK))
    generalize w4.heap.size = E4 at *
    go_wp2_with (first | ((with_reducible refine gate_dst (N := 63) rfl ?_); refine gate_guard (by first | rfl | exact wanted_on rfl rfl rfl rfl) ?_; refine wpList_load_row rfl 29 (.tmp 11) rfl _ rfl 29 (ZC) (0, 0) _ (HST.out.fr (E4, fz) (by simp)) Tryd.underlying29 rfl (by kernel_rfl) ?_) | ((with_reducible refine gate_dst (N := 64) rfl ?_); refine gate_guard (by first | rfl | exact wanted_on rfl rfl rfl rfl) ?_; refine wpList_load_row rfl 29 (.tmp 3) rfl _ rfl 29 (FC (f)) (0, 0) _ (HST.out.fr (E, f) (by simp)) Tryd.underlying29 rfl (by kernel_rfl) ?_) | ((with_reducible refine gate_dst (N := 75) rfl ?_); refine gate_guard (by first | rfl | exact wanted_on rfl rfl rfl rfl) ?_; refine wpList_load_row rfl 29 (.tmp 11) rfl _ rfl 29 (ZC) (0, 0) _ (HST.out.fr (E4, fz) (by simp)) Tryd.underlying29 rfl (by kernel_rfl) ?_))
    all_goals go_ret
    all_goals exact ⟨rfl, HST.out.below⟩
  · clear d2
    have c2 : decide (0 ≤ c) = false := decide_eq_false c0
    clear c0
    go_upto_region 11 with (first | (go_at_call 15; (with_reducible refine (HD.out _).mono ?_); rintro e w4 ⟨rfl, hb⟩; obtain ⟨W_, hW, hlk, hst⟩ := (HST.out.on hb).new (fz); have HW := Aside0.mk hW; have HLK := Aside0.mk hlk; clear HST hb hW hlk; have HST := Aside0.mk hst; clear hst) | ((with_reducible refine gate_store (t := 29) (p := 11) rfl ?_); refine wpList_store_row rfl 29 (.tmp 11) (.tmp 54) rfl _ (ZC) rfl rfl 29 _ HLK.out (by kernel_rfl) rfl (by kernel_rfl) ?_; refine (congrArg (fun W => wpList Tryd.prog _ _ _ _ W) HW.out).mpr ?_; clear HW HLK))
    generalize w4.heap.size = E4 at *
    go_wp2_with (first | ((with_reducible refine gate_dst (N := 63) rfl ?_); refine gate_guard (by first | rfl | exact wanted_on rfl rfl rfl rfl) ?_; refine wpList_load_row rfl 29 (.tmp 11) rfl _ rfl 29 (ZC) (0, 0) _ (HST.out.fr (E4, fz) (by simp)) Tryd.underlying29 rfl (by kernel_rfl) ?_) | ((with_reducible refine gate_dst (N := 64) rfl ?_); refine gate_guard (by first | rfl | exact wanted_on rfl rfl rfl rfl) ?_; refine wpList_load_row rfl 29 (.tmp 3) rfl _ rfl 29 (FC (f)) (0, 0) _ (HST.out.fr (E, f) (by simp)) Tryd.underlying29 rfl (by kernel_rfl) ?_) | ((with_reducible refine gate_dst (N := 75) rfl ?_); refine gate_guard (by first | rfl | exact wanted_on rfl rfl rfl rfl) ?_; refine wpList_load_row rfl 29 (.tmp 11) rfl _ rfl 29 (ZC) (0, 0) _ (HST.out.fr (E4, fz) (by simp)) Tryd.underlying29 rfl (by kernel_rfl) ?_))
    all_goals go_ret
    all_goals exact ⟨rfl, HST.out.below⟩
theorem cuts_f (w : World) (f : Fr) (hr : Rng f) (c : Int) (m : ByteArray) (ht : Own.Tabs w) :
    Calls Tryd.prog 6 #[.agg (FC f), .int .i64 c, .string m] w fun e w' => e = .returned (.bool true) ∧ Below w.heap.size w w' := by
  cases h : right f with
  | false => exact cuts_no w f c m ht h
  | true =>
    by_cases hm : 60 < m.size
    · exact cuts_long w f c m ht h hm
    · by_cases hc : 0 ≤ c ∧ c < (encs f).size
      · obtain ⟨n, rfl⟩ : ∃ n : Nat, c = n := ⟨c.toNat, by omega⟩
        by_cases hs : m.size = 0
        · exact cuts_aa w f hr n m ht h (by omega) (by omega) (size0 m hs)
        · exact cuts_ab w f hr n m ht h (by omega) (by omega) hs
      · by_cases hs : m.size = 0
        · exact cuts_ba w f hr c m ht h (by omega) hc (size0 m hs)
        · exact cuts_bb w f hr c m ht h (by omega) hc hs
end Go.Proofs.YtkcaifpmceoflaaDoor.Frm

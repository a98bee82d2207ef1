/- Contracts of functions of the given program, each under the conditions that it states (a run of the kit's printer, by hprint.py, with contracts of our own among its functions). -/
import Derived.Test.YtkcaifpmceoflaaDoorOwnx0
import Derived.Test.YtkcaifpmceoflaaDoorOwnx1
import Derived.Test.YtkcaifpmceoflaaDoorOwnx2
namespace Go.Proofs.YtkcaifpmceoflaaDoor.Own
open Go.RowKit Go.Proofs.YtkcaifpmceoflaaDoorW.PrintWords Go.Proofs.YtkcaifpmceoflaaDoorW.PrintLast Go.Proofs.YtkcaifpmceoflaaDoorW.PrintMore
attribute [local go_sem] max2_int min2_int max_two min_two max_three min_three max_four min_four   -- for this text's walks alone
set_option linter.unusedVariables false
set_option linter.unusedSimpArgs false

attribute [local go_sem high] eqA24 eqA27
/-! ### frame_bare: function 30 -/
def frame_bare.j0 : Nat → Bool → Int → Int → Int → Int → Int → Int → Int → Int → Int → Int → Int → Int → Bool → Int → Int → Int → Int → Int → ByteArray → Option (Bool)
  | 0, _, _, _, _, _, _, _, _, _, _, _, _, _, _, _, _, _, _, _, _ => none
  | k + 1, x15, x102000, x102001, x102002, x102003, x102004, x102005, x102006, x102007, x102008, x102009, x102010, x102011, x102012, x102013, x102014, x102015, x102016, x102017, x102018 => if x15 = true then (some false) else (if x102000 = 4 then (if x102013 < 16 then (if x102017 ≥ 1 then (if x102017 ≤ 4 then (if x102016 < x102017 then (if (x102018.size : Int) ≥ 1 then (some (decide ((x102018.size : Int) ≤ 16))) else (some false)) else (some false)) else (some false)) else (some false)) else (some false)) else (if x102013 = 0 then (if (x102014 == 0 && (x102015 == 0)) = true then (if x102016 = 0 then (if x102017 = 0 then (some (x102018.toList == ([] : List UInt8))) else (some false)) else (some false)) else (some false)) else (some false)))
def frame_bare.f (k : Nat) (a0_0 : Int) (a0_1 : Int) (a0_2 : Int) (a0_3 : Int) (a0_4 : Int) (a0_5 : Int) (a0_6 : Int) (a0_7 : Int) (a0_8 : Int) (a0_9 : Int) (a0_10 : Int) (a0_11 : Int) (a0_12 : Bool) (a0_13 : Int) (a0_14 : Int) (a0_15 : Int) (a0_16 : Int) (a0_17 : Int) (a0_18 : ByteArray) : Option (Bool) := if a0_0 = 3 then (frame_bare.j0 k false a0_0 a0_1 a0_2 a0_3 a0_4 a0_5 a0_6 a0_7 a0_8 a0_9 a0_10 a0_11 a0_12 a0_13 a0_14 a0_15 a0_16 a0_17 a0_18) else (if (!(a0_9 == 0) || (!(a0_10 == 0) || (!(a0_11 == 0)))) = true then (frame_bare.j0 k true a0_0 a0_1 a0_2 a0_3 a0_4 a0_5 a0_6 a0_7 a0_8 a0_9 a0_10 a0_11 a0_12 a0_13 a0_14 a0_15 a0_16 a0_17 a0_18) else (frame_bare.j0 k a0_12 a0_0 a0_1 a0_2 a0_3 a0_4 a0_5 a0_6 a0_7 a0_8 a0_9 a0_10 a0_11 a0_12 a0_13 a0_14 a0_15 a0_16 a0_17 a0_18))
theorem frame_bare.mono_l : ∀ k, (∀ y0 y1 y2 y3 y4 y5 y6 y7 y8 y9 y10 y11 y12 y13 y14 y15 y16 y17 y18 y19, LeO (frame_bare.j0 k y0 y1 y2 y3 y4 y5 y6 y7 y8 y9 y10 y11 y12 y13 y14 y15 y16 y17 y18 y19) (frame_bare.j0 (k + 1) y0 y1 y2 y3 y4 y5 y6 y7 y8 y9 y10 y11 y12 y13 y14 y15 y16 y17 y18 y19))
  | 0 => fun _ _ _ _ _ _ _ _ _ _ _ _ _ _ _ _ _ _ _ _ r h => by simp [frame_bare.j0] at h
  | k + 1 => by
    have ih0 := frame_bare.mono_l k
    · intro y0 y1 y2 y3 y4 y5 y6 y7 y8 y9 y10 y11 y12 y13 y14 y15 y16 y17 y18 y19
      unfold frame_bare.j0
      repeat' first
      | (with_reducible exact ih0 _ _ _ _ _ _ _ _ _ _ _ _ _ _ _ _ _ _ _ _)
      | (with_reducible exact LeO.refl _)
      | (with_reducible exact LeO.none _)
      | (with_reducible refine LeO.ite ?_ ?_)
      | (with_reducible refine LeO.bind ?_ (fun _ => ?_))
      | exact ih0 _ _ _ _ _ _ _ _ _ _ _ _ _ _ _ _ _ _ _ _
      | exact LeO.none _
      | refine LeO.ite ?_ ?_
      | refine LeO.bind ?_ (fun _ => ?_)
theorem frame_bare.mono : ∀ a0 a1 a2 a3 a4 a5 a6 a7 a8 a9 a10 a11 a12 a13 a14 a15 a16 a17 a18 k, LeO (frame_bare.f k a0 a1 a2 a3 a4 a5 a6 a7 a8 a9 a10 a11 a12 a13 a14 a15 a16 a17 a18) (frame_bare.f (k + 1) a0 a1 a2 a3 a4 a5 a6 a7 a8 a9 a10 a11 a12 a13 a14 a15 a16 a17 a18) := by
  intro a0 a1 a2 a3 a4 a5 a6 a7 a8 a9 a10 a11 a12 a13 a14 a15 a16 a17 a18 k
  have ih0 := frame_bare.mono_l k
  unfold frame_bare.f
  repeat' first
      | (with_reducible exact ih0 _ _ _ _ _ _ _ _ _ _ _ _ _ _ _ _ _ _ _ _)
      | (with_reducible exact LeO.refl _)
      | (with_reducible exact LeO.none _)
      | (with_reducible refine LeO.ite ?_ ?_)
      | (with_reducible refine LeO.bind ?_ (fun _ => ?_))
      | exact ih0 _ _ _ _ _ _ _ _ _ _ _ _ _ _ _ _ _ _ _ _
      | exact LeO.none _
      | refine LeO.ite ?_ ?_
      | refine LeO.bind ?_ (fun _ => ?_)
set_option maxHeartbeats 8000000 in
set_option maxRecDepth 100000 in
theorem frame_bare.calls (k : Nat) (a0_0 : Int) (a0_1 : Int) (a0_2 : Int) (a0_3 : Int) (a0_4 : Int) (a0_5 : Int) (a0_6 : Int) (a0_7 : Int) (a0_8 : Int) (a0_9 : Int) (a0_10 : Int) (a0_11 : Int) (a0_12 : Bool) (a0_13 : Int) (a0_14 : Int) (a0_15 : Int) (a0_16 : Int) (a0_17 : Int) (a0_18 : ByteArray) (r : Bool) (w : World) (h : frame_bare.f k a0_0 a0_1 a0_2 a0_3 a0_4 a0_5 a0_6 a0_7 a0_8 a0_9 a0_10 a0_11 a0_12 a0_13 a0_14 a0_15 a0_16 a0_17 a0_18 = some r) :
    Calls Tryd.prog 30 #[.agg #[.int .i64 a0_0, .int .u8 a0_1, .int .u8 a0_2, .int .u16 a0_3, .int .u16 a0_4, .int .u16 a0_5, .int .u8 a0_6, .int .u16 a0_7, .int .u16 a0_8, .int .u16 a0_9, .int .u8 a0_10, .int .u16 a0_11, .bool a0_12, .int .u8 a0_13, .int .u16 a0_14, .int .u32 a0_15, .int .u8 a0_16, .int .u8 a0_17, .string a0_18]] w fun e w' => e = .returned (.bool r) ∧ Below w.heap.size w w' := by
  have hu29 := Tryd.underlying29
  have hu24 := Tryd.underlying24
  have hu27 := Tryd.underlying27
  have HB := Aside0.mk (Below.refl w.heap.size w)
  have H : (if a0_0 = 3 then (frame_bare.j0 k false a0_0 a0_1 a0_2 a0_3 a0_4 a0_5 a0_6 a0_7 a0_8 a0_9 a0_10 a0_11 a0_12 a0_13 a0_14 a0_15 a0_16 a0_17 a0_18) else (if (!(a0_9 == 0) || (!(a0_10 == 0) || (!(a0_11 == 0)))) = true then (frame_bare.j0 k true a0_0 a0_1 a0_2 a0_3 a0_4 a0_5 a0_6 a0_7 a0_8 a0_9 a0_10 a0_11 a0_12 a0_13 a0_14 a0_15 a0_16 a0_17 a0_18) else (frame_bare.j0 k a0_12 a0_0 a0_1 a0_2 a0_3 a0_4 a0_5 a0_6 a0_7 a0_8 a0_9 a0_10 a0_11 a0_12 a0_13 a0_14 a0_15 a0_16 a0_17 a0_18))) = some r := h
  clear h
  have HC2 := Aside0.mk H
  clear H
  go_enter Tryd.func30, Tryd.ntmps30
  go_upto_region 1 with (first | ((with_reducible refine gate_dst (N := 1) rfl ?_); (try (refine gate_guard (by rfl) ?_; dsimp only)); refine box_event ?hg (N := 1) ?hd (cs := #[.int .i64 a0_0, .int .u8 a0_1, .int .u8 a0_2, .int .u16 a0_3, .int .u16 a0_4, .int .u16 a0_5, .int .u8 a0_6, .int .u16 a0_7, .int .u16 a0_8, .int .u16 a0_9, .int .u8 a0_10, .int .u16 a0_11, .bool a0_12, .int .u8 a0_13, .int .u16 a0_14, .int .u32 a0_15, .int .u8 a0_16, .int .u8 a0_17, .string a0_18]) (t := 29) ?hr ?_; (case hd => rfl); (case hg => rfl); (case hr => first | (go_simp; done) | (go_simp; rfl)); intro gb101 hg w3 hbox hb; have n0_ := Aside0.mk (below_step (by repeat (first | (with_reducible first | exact HB.out | apply below_alloc | apply pw_below_drewN | apply below_drew1) | exact HB.out)) hb); have n1_ := Aside0.mk (hbox); have n2_ := Aside0.mk ((by rw [hg]; exact (below_size (by repeat (first | (with_reducible first | exact HB.out | apply below_alloc | apply pw_below_drewN | apply below_drew1) | exact HB.out))) : w.heap.size ≤ gb101)); have n3_ := Aside0.mk ((by rw [hg]; exact (below_size (by repeat (first | (with_reducible first | exact HB.out | apply below_alloc | apply pw_below_drewN | apply below_drew1) | exact HB.out))) : w.heap.size ≤ gb101)); clear HB; have HB := n0_; have BK101 := n1_; have GW101 := n2_; have GE101 := n3_; clear n0_ n1_ n2_ n3_; clear hb hbox hg))
  (try simp only [Act.put, List.setIfInBounds_toArray, List.set_cons_zero, List.set_cons_succ])
  go_cut [15] (fun v15 wc => ∃ (kq : Nat) (x15_1 : Bool), v15 = .bool x15_1 ∧ Aside0 (frame_bare.j0 kq x15_1 a0_0 a0_1 a0_2 a0_3 a0_4 a0_5 a0_6 a0_7 a0_8 a0_9 a0_10 a0_11 a0_12 a0_13 a0_14 a0_15 a0_16 a0_17 a0_18 = some r) ∧ Aside0 (kq ≤ k) ∧ Aside0 (wc.heap[gb101]? = some (.cells #[.int .i64 a0_0, .int .u8 a0_1, .int .u8 a0_2, .int .u16 a0_3, .int .u16 a0_4, .int .u16 a0_5, .int .u8 a0_6, .int .u16 a0_7, .int .u16 a0_8, .int .u16 a0_9, .int .u8 a0_10, .int .u16 a0_11, .bool a0_12, .int .u8 a0_13, .int .u16 a0_14, .int .u32 a0_15, .int .u8 a0_16, .int .u8 a0_17, .string a0_18] 29 (0, 0))) ∧ Aside0 (Below w.heap.size w wc))
  case first =>
    have H := HC2.out
    clear HC2
    by_cases c4 : a0_0 = 3
    · rw [if_pos c4] at H
      have c4b0 : (a0_0 == 3) = true := beq_iff_eq.mpr c4
      have c4b1 : (a0_0 != 3) = false := bne_eq_false_iff_eq.mpr c4
      clear c4
      (first | rw [c4b0] | (simp only [i64_w, i32_w]; rw [c4b0]) | skip)
      have H' := Aside0.mk H
      clear H
      have hcz5_0 : w3.cell? ⟨gb101, 0, none⟩ = some (.int .i64 a0_0) := (blk_cell BK101.out 0).trans rfl
      have hcz5_1 : w3.cell? ⟨gb101, 1, none⟩ = some (.int .u8 a0_1) := (blk_cell BK101.out 1).trans rfl
      have hcz5_2 : w3.cell? ⟨gb101, 2, none⟩ = some (.int .u8 a0_2) := (blk_cell BK101.out 2).trans rfl
      have hcz5_3 : w3.cell? ⟨gb101, 3, none⟩ = some (.int .u16 a0_3) := (blk_cell BK101.out 3).trans rfl
      have hcz5_4 : w3.cell? ⟨gb101, 4, none⟩ = some (.int .u16 a0_4) := (blk_cell BK101.out 4).trans rfl
      have hcz5_5 : w3.cell? ⟨gb101, 5, none⟩ = some (.int .u16 a0_5) := (blk_cell BK101.out 5).trans rfl
      have hcz5_6 : w3.cell? ⟨gb101, 6, none⟩ = some (.int .u8 a0_6) := (blk_cell BK101.out 6).trans rfl
      have hcz5_7 : w3.cell? ⟨gb101, 7, none⟩ = some (.int .u16 a0_7) := (blk_cell BK101.out 7).trans rfl
      have hcz5_8 : w3.cell? ⟨gb101, 8, none⟩ = some (.int .u16 a0_8) := (blk_cell BK101.out 8).trans rfl
      have hcz5_9 : w3.cell? ⟨gb101, 9, none⟩ = some (.int .u16 a0_9) := (blk_cell BK101.out 9).trans rfl
      have hcz5_10 : w3.cell? ⟨gb101, 10, none⟩ = some (.int .u8 a0_10) := (blk_cell BK101.out 10).trans rfl
      have hcz5_11 : w3.cell? ⟨gb101, 11, none⟩ = some (.int .u16 a0_11) := (blk_cell BK101.out 11).trans rfl
      have hcz5_12 : w3.cell? ⟨gb101, 12, none⟩ = some (.bool a0_12) := (blk_cell BK101.out 12).trans rfl
      have hcz5_13 : w3.cell? ⟨gb101, 13, none⟩ = some (.int .u8 a0_13) := (blk_cell BK101.out 13).trans rfl
      have hcz5_14 : w3.cell? ⟨gb101, 14, none⟩ = some (.int .u16 a0_14) := (blk_cell BK101.out 14).trans rfl
      have hcz5_15 : w3.cell? ⟨gb101, 15, none⟩ = some (.int .u32 a0_15) := (blk_cell BK101.out 15).trans rfl
      have hcz5_16 : w3.cell? ⟨gb101, 16, none⟩ = some (.int .u8 a0_16) := (blk_cell BK101.out 16).trans rfl
      have hcz5_17 : w3.cell? ⟨gb101, 17, none⟩ = some (.int .u8 a0_17) := (blk_cell BK101.out 17).trans rfl
      have hcz5_18 : w3.cell? ⟨gb101, 18, none⟩ = some (.string a0_18) := (blk_cell BK101.out 18).trans rfl
      have hfz5_0 := blk_frozen BK101.out 0
      have hfz5_1 := blk_frozen BK101.out 1
      have hfz5_2 := blk_frozen BK101.out 2
      have hfz5_3 := blk_frozen BK101.out 3
      have hfz5_4 := blk_frozen BK101.out 4
      have hfz5_5 := blk_frozen BK101.out 5
      have hfz5_6 := blk_frozen BK101.out 6
      have hfz5_7 := blk_frozen BK101.out 7
      have hfz5_8 := blk_frozen BK101.out 8
      have hfz5_9 := blk_frozen BK101.out 9
      have hfz5_10 := blk_frozen BK101.out 10
      have hfz5_11 := blk_frozen BK101.out 11
      have hfz5_12 := blk_frozen BK101.out 12
      have hfz5_13 := blk_frozen BK101.out 13
      have hfz5_14 := blk_frozen BK101.out 14
      have hfz5_15 := blk_frozen BK101.out 15
      have hfz5_16 := blk_frozen BK101.out 16
      have hfz5_17 := blk_frozen BK101.out 17
      have hfz5_18 := blk_frozen BK101.out 18
      go_wp2
      go_meet
      case rel => exact ⟨_, (false), (by first | rfl | (simp; done) | (simp [*]; done)), H', ⟨by first | omega | exact Nat.le_refl _⟩, ⟨by (with_reducible repeat (first | refine blk_drewN ?_ _ | refine blk_drew ?_ | refine blk_alloc ?_ _)); exact BK101.out⟩, ⟨by repeat (first | (with_reducible first | exact HB.out | apply below_alloc | apply pw_below_drewN | apply below_drew1 | refine below_set ?_ GE101.out) | exact HB.out)⟩⟩
    · rw [if_neg c4] at H
      have c4b0 : (a0_0 == 3) = false := beq_eq_false_iff_ne.mpr c4
      have c4b1 : (a0_0 != 3) = true := bne_iff_ne.mpr c4
      (first | rw [c4b0] | (simp only [i64_w, i32_w]; rw [c4b0]) | skip)
      by_cases c6 : (!(a0_9 == 0) || (!(a0_10 == 0) || (!(a0_11 == 0)))) = true
      · rw [if_pos c6] at H
        have c6b0 : (!(a0_9 == 0) || (!(a0_10 == 0) || (!(a0_11 == 0)))) = true := c6
        clear c6
        have H' := Aside0.mk H
        clear H
        have hcz7_0 : w3.cell? ⟨gb101, 0, none⟩ = some (.int .i64 a0_0) := (blk_cell BK101.out 0).trans rfl
        have hcz7_1 : w3.cell? ⟨gb101, 1, none⟩ = some (.int .u8 a0_1) := (blk_cell BK101.out 1).trans rfl
        have hcz7_2 : w3.cell? ⟨gb101, 2, none⟩ = some (.int .u8 a0_2) := (blk_cell BK101.out 2).trans rfl
        have hcz7_3 : w3.cell? ⟨gb101, 3, none⟩ = some (.int .u16 a0_3) := (blk_cell BK101.out 3).trans rfl
        have hcz7_4 : w3.cell? ⟨gb101, 4, none⟩ = some (.int .u16 a0_4) := (blk_cell BK101.out 4).trans rfl
        have hcz7_5 : w3.cell? ⟨gb101, 5, none⟩ = some (.int .u16 a0_5) := (blk_cell BK101.out 5).trans rfl
        have hcz7_6 : w3.cell? ⟨gb101, 6, none⟩ = some (.int .u8 a0_6) := (blk_cell BK101.out 6).trans rfl
        have hcz7_7 : w3.cell? ⟨gb101, 7, none⟩ = some (.int .u16 a0_7) := (blk_cell BK101.out 7).trans rfl
        have hcz7_8 : w3.cell? ⟨gb101, 8, none⟩ = some (.int .u16 a0_8) := (blk_cell BK101.out 8).trans rfl
        have hcz7_9 : w3.cell? ⟨gb101, 9, none⟩ = some (.int .u16 a0_9) := (blk_cell BK101.out 9).trans rfl
        have hcz7_10 : w3.cell? ⟨gb101, 10, none⟩ = some (.int .u8 a0_10) := (blk_cell BK101.out 10).trans rfl
        have hcz7_11 : w3.cell? ⟨gb101, 11, none⟩ = some (.int .u16 a0_11) := (blk_cell BK101.out 11).trans rfl
        have hcz7_12 : w3.cell? ⟨gb101, 12, none⟩ = some (.bool a0_12) := (blk_cell BK101.out 12).trans rfl
        have hcz7_13 : w3.cell? ⟨gb101, 13, none⟩ = some (.int .u8 a0_13) := (blk_cell BK101.out 13).trans rfl
        have hcz7_14 : w3.cell? ⟨gb101, 14, none⟩ = some (.int .u16 a0_14) := (blk_cell BK101.out 14).trans rfl
        have hcz7_15 : w3.cell? ⟨gb101, 15, none⟩ = some (.int .u32 a0_15) := (blk_cell BK101.out 15).trans rfl
        have hcz7_16 : w3.cell? ⟨gb101, 16, none⟩ = some (.int .u8 a0_16) := (blk_cell BK101.out 16).trans rfl
        have hcz7_17 : w3.cell? ⟨gb101, 17, none⟩ = some (.int .u8 a0_17) := (blk_cell BK101.out 17).trans rfl
        have hcz7_18 : w3.cell? ⟨gb101, 18, none⟩ = some (.string a0_18) := (blk_cell BK101.out 18).trans rfl
        have hfz7_0 := blk_frozen BK101.out 0
        have hfz7_1 := blk_frozen BK101.out 1
        have hfz7_2 := blk_frozen BK101.out 2
        have hfz7_3 := blk_frozen BK101.out 3
        have hfz7_4 := blk_frozen BK101.out 4
        have hfz7_5 := blk_frozen BK101.out 5
        have hfz7_6 := blk_frozen BK101.out 6
        have hfz7_7 := blk_frozen BK101.out 7
        have hfz7_8 := blk_frozen BK101.out 8
        have hfz7_9 := blk_frozen BK101.out 9
        have hfz7_10 := blk_frozen BK101.out 10
        have hfz7_11 := blk_frozen BK101.out 11
        have hfz7_12 := blk_frozen BK101.out 12
        have hfz7_13 := blk_frozen BK101.out 13
        have hfz7_14 := blk_frozen BK101.out 14
        have hfz7_15 := blk_frozen BK101.out 15
        have hfz7_16 := blk_frozen BK101.out 16
        have hfz7_17 := blk_frozen BK101.out 17
        have hfz7_18 := blk_frozen BK101.out 18
        go_wp2
        go_meet
        case rel => exact ⟨_, (true), (by first | rfl | (simp; done) | (simp [*]; done)), H', ⟨by first | omega | exact Nat.le_refl _⟩, ⟨by (with_reducible repeat (first | refine blk_drewN ?_ _ | refine blk_drew ?_ | refine blk_alloc ?_ _)); exact BK101.out⟩, ⟨by repeat (first | (with_reducible first | exact HB.out | apply below_alloc | apply pw_below_drewN | apply below_drew1 | refine below_set ?_ GE101.out) | exact HB.out)⟩⟩
      · rw [if_neg c6] at H
        have c6b0 : (!(a0_9 == 0) || (!(a0_10 == 0) || (!(a0_11 == 0)))) = false := by simpa using c6
        clear c6
        have H' := Aside0.mk H
        clear H
        have hcz8_0 : w3.cell? ⟨gb101, 0, none⟩ = some (.int .i64 a0_0) := (blk_cell BK101.out 0).trans rfl
        have hcz8_1 : w3.cell? ⟨gb101, 1, none⟩ = some (.int .u8 a0_1) := (blk_cell BK101.out 1).trans rfl
        have hcz8_2 : w3.cell? ⟨gb101, 2, none⟩ = some (.int .u8 a0_2) := (blk_cell BK101.out 2).trans rfl
        have hcz8_3 : w3.cell? ⟨gb101, 3, none⟩ = some (.int .u16 a0_3) := (blk_cell BK101.out 3).trans rfl
        have hcz8_4 : w3.cell? ⟨gb101, 4, none⟩ = some (.int .u16 a0_4) := (blk_cell BK101.out 4).trans rfl
        have hcz8_5 : w3.cell? ⟨gb101, 5, none⟩ = some (.int .u16 a0_5) := (blk_cell BK101.out 5).trans rfl
        have hcz8_6 : w3.cell? ⟨gb101, 6, none⟩ = some (.int .u8 a0_6) := (blk_cell BK101.out 6).trans rfl
        have hcz8_7 : w3.cell? ⟨gb101, 7, none⟩ = some (.int .u16 a0_7) := (blk_cell BK101.out 7).trans rfl
        have hcz8_8 : w3.cell? ⟨gb101, 8, none⟩ = some (.int .u16 a0_8) := (blk_cell BK101.out 8).trans rfl
        have hcz8_9 : w3.cell? ⟨gb101, 9, none⟩ = some (.int .u16 a0_9) := (blk_cell BK101.out 9).trans rfl
        have hcz8_10 : w3.cell? ⟨gb101, 10, none⟩ = some (.int .u8 a0_10) := (blk_cell BK101.out 10).trans rfl
        have hcz8_11 : w3.cell? ⟨gb101, 11, none⟩ = some (.int .u16 a0_11) := (blk_cell BK101.out 11).trans rfl
        have hcz8_12 : w3.cell? ⟨gb101, 12, none⟩ = some (.bool a0_12) := (blk_cell BK101.out 12).trans rfl
        have hcz8_13 : w3.cell? ⟨gb101, 13, none⟩ = some (.int .u8 a0_13) := (blk_cell BK101.out 13).trans rfl
        have hcz8_14 : w3.cell? ⟨gb101, 14, none⟩ = some (.int .u16 a0_14) := (blk_cell BK101.out 14).trans rfl
        have hcz8_15 : w3.cell? ⟨gb101, 15, none⟩ = some (.int .u32 a0_15) := (blk_cell BK101.out 15).trans rfl
        have hcz8_16 : w3.cell? ⟨gb101, 16, none⟩ = some (.int .u8 a0_16) := (blk_cell BK101.out 16).trans rfl
        have hcz8_17 : w3.cell? ⟨gb101, 17, none⟩ = some (.int .u8 a0_17) := (blk_cell BK101.out 17).trans rfl
        have hcz8_18 : w3.cell? ⟨gb101, 18, none⟩ = some (.string a0_18) := (blk_cell BK101.out 18).trans rfl
        have hfz8_0 := blk_frozen BK101.out 0
        have hfz8_1 := blk_frozen BK101.out 1
        have hfz8_2 := blk_frozen BK101.out 2
        have hfz8_3 := blk_frozen BK101.out 3
        have hfz8_4 := blk_frozen BK101.out 4
        have hfz8_5 := blk_frozen BK101.out 5
        have hfz8_6 := blk_frozen BK101.out 6
        have hfz8_7 := blk_frozen BK101.out 7
        have hfz8_8 := blk_frozen BK101.out 8
        have hfz8_9 := blk_frozen BK101.out 9
        have hfz8_10 := blk_frozen BK101.out 10
        have hfz8_11 := blk_frozen BK101.out 11
        have hfz8_12 := blk_frozen BK101.out 12
        have hfz8_13 := blk_frozen BK101.out 13
        have hfz8_14 := blk_frozen BK101.out 14
        have hfz8_15 := blk_frozen BK101.out 15
        have hfz8_16 := blk_frozen BK101.out 16
        have hfz8_17 := blk_frozen BK101.out 17
        have hfz8_18 := blk_frozen BK101.out 18
        go_wp2
        go_meet
        case rel => exact ⟨_, (a0_12), (by first | rfl | (simp; done) | (simp [*]; done)), H', ⟨by first | omega | exact Nat.le_refl _⟩, ⟨by (with_reducible repeat (first | refine blk_drewN ?_ _ | refine blk_drew ?_ | refine blk_alloc ?_ _)); exact BK101.out⟩, ⟨by repeat (first | (with_reducible first | exact HB.out | apply below_alloc | apply pw_below_drewN | apply below_drew1 | refine below_set ?_ GE101.out) | exact HB.out)⟩⟩
  case rest =>
    clear HC2
    try clear p2
    try clear c3
    try clear c4
    try clear c4b0
    try clear c4b1
    try clear c6
    try clear c6b0
    try clear hcz5_0
    try clear hcz5_1
    try clear hcz5_10
    try clear hcz5_11
    try clear hcz5_12
    try clear hcz5_13
    try clear hcz5_14
    try clear hcz5_15
    try clear hcz5_16
    try clear hcz5_17
    try clear hcz5_18
    try clear hcz5_2
    try clear hcz5_3
    try clear hcz5_4
    try clear hcz5_5
    try clear hcz5_6
    try clear hcz5_7
    try clear hcz5_8
    try clear hcz5_9
    try clear hcz7_0
    try clear hcz7_1
    try clear hcz7_10
    try clear hcz7_11
    try clear hcz7_12
    try clear hcz7_13
    try clear hcz7_14
    try clear hcz7_15
    try clear hcz7_16
    try clear hcz7_17
    try clear hcz7_18
    try clear hcz7_2
    try clear hcz7_3
    try clear hcz7_4
    try clear hcz7_5
    try clear hcz7_6
    try clear hcz7_7
    try clear hcz7_8
    try clear hcz7_9
    try clear hcz8_0
    try clear hcz8_1
    try clear hcz8_10
    try clear hcz8_11
    try clear hcz8_12
    try clear hcz8_13
    try clear hcz8_14
    try clear hcz8_15
    try clear hcz8_16
    try clear hcz8_17
    try clear hcz8_18
    try clear hcz8_2
    try clear hcz8_3
    try clear hcz8_4
    try clear hcz8_5
    try clear hcz8_6
    try clear hcz8_7
    try clear hcz8_8
    try clear hcz8_9
    try clear hfz5_0
    try clear hfz5_1
    try clear hfz5_10
    try clear hfz5_11
    try clear hfz5_12
    try clear hfz5_13
    try clear hfz5_14
    try clear hfz5_15
    try clear hfz5_16
    try clear hfz5_17
    try clear hfz5_18
    try clear hfz5_2
    try clear hfz5_3
    try clear hfz5_4
    try clear hfz5_5
    try clear hfz5_6
    try clear hfz5_7
    try clear hfz5_8
    try clear hfz5_9
    try clear hfz7_0
    try clear hfz7_1
    try clear hfz7_10
    try clear hfz7_11
    try clear hfz7_12
    try clear hfz7_13
    try clear hfz7_14
    try clear hfz7_15
    try clear hfz7_16
    try clear hfz7_17
    try clear hfz7_18
    try clear hfz7_2
    try clear hfz7_3
    try clear hfz7_4
    try clear hfz7_5
    try clear hfz7_6
    try clear hfz7_7
    try clear hfz7_8
    try clear hfz7_9
    try clear hfz8_0
    try clear hfz8_1
    try clear hfz8_10
    try clear hfz8_11
    try clear hfz8_12
    try clear hfz8_13
    try clear hfz8_14
    try clear hfz8_15
    try clear hfz8_16
    try clear hfz8_17
    try clear hfz8_18
    try clear hfz8_2
    try clear hfz8_3
    try clear hfz8_4
    try clear hfz8_5
    try clear hfz8_6
    try clear hfz8_7
    try clear hfz8_8
    try clear hfz8_9
    obtain ⟨kq, x15_1, rfl, HA, HJ1, BK101, HB⟩ := hcut
    cases kq with
    | zero => exact absurd HA.out (by simp [frame_bare.j0])
    | succ kj1 =>
      have H := HA.out
      clear HA
      simp only [frame_bare.j0] at H
      by_cases c9 : x15_1 = true
      · subst c9
        have H1 : (some false) = some r := by rw [if_pos rfl] at H; exact H
        clear H
        have H := H1
        clear H1
        obtain rfl := Option.some.inj H
        go_wp2
        go_ret
        exact ⟨by first | rfl | (simp [errW_none, errW_some] <;> rfl) | (simp [*, errW_none, errW_some] <;> rfl), by repeat (first | (with_reducible first | exact HB.out | apply below_alloc | apply pw_below_drewN | apply below_drew1 | refine below_set ?_ GE101.out) | exact HB.out)⟩
      · replace c9 := Bool.eq_false_iff.mpr c9
        subst c9
        have H1 : (if a0_0 = 4 then (if a0_13 < 16 then (if a0_17 ≥ 1 then (if a0_17 ≤ 4 then (if a0_16 < a0_17 then (if (a0_18.size : Int) ≥ 1 then (some (decide ((a0_18.size : Int) ≤ 16))) else (some false)) else (some false)) else (some false)) else (some false)) else (some false)) else (if a0_13 = 0 then (if (a0_14 == 0 && (a0_15 == 0)) = true then (if a0_16 = 0 then (if a0_17 = 0 then (some (a0_18.toList == ([] : List UInt8))) else (some false)) else (some false)) else (some false)) else (some false))) = some r := by rw [if_neg (show ¬ (false = true) by decide)] at H; exact H
        clear H
        have H := H1
        clear H1
        by_cases c10 : a0_0 = 4
        · rw [if_pos c10] at H
          have c10b0 : (a0_0 == 4) = true := beq_iff_eq.mpr c10
          have c10b1 : (a0_0 != 4) = false := bne_eq_false_iff_eq.mpr c10
          clear c10
          by_cases c11 : a0_13 < 16
          · rw [if_pos c11] at H
            have c11b0 : decide (a0_13 < 16) = true := decide_eq_true c11
            clear c11
            by_cases c12 : a0_17 ≥ 1
            · rw [if_pos c12] at H
              have c12b0 : decide (1 ≤ a0_17) = true := decide_eq_true c12
              clear c12
              by_cases c13 : a0_17 ≤ 4
              · rw [if_pos c13] at H
                have c13b0 : decide (a0_17 ≤ 4) = true := decide_eq_true c13
                clear c13
                by_cases c14 : a0_16 < a0_17
                · rw [if_pos c14] at H
                  have c14b0 : decide (a0_16 < a0_17) = true := decide_eq_true c14
                  clear c14
                  by_cases c15 : (a0_18.size : Int) ≥ 1
                  · rw [if_pos c15] at H
                    have c15b0 : decide (1 ≤ (a0_18.size : Int)) = true := decide_eq_true c15
                    have c15b1 : decide (1 ≤ a0_18.size) = true := decide_eq_true (by omega)
                    clear c15
                    obtain rfl := Option.some.inj H
                    have hcz16_0 : wc.cell? ⟨gb101, 0, none⟩ = some (.int .i64 a0_0) := (blk_cell BK101.out 0).trans rfl
                    have hcz16_1 : wc.cell? ⟨gb101, 1, none⟩ = some (.int .u8 a0_1) := (blk_cell BK101.out 1).trans rfl
                    have hcz16_2 : wc.cell? ⟨gb101, 2, none⟩ = some (.int .u8 a0_2) := (blk_cell BK101.out 2).trans rfl
                    have hcz16_3 : wc.cell? ⟨gb101, 3, none⟩ = some (.int .u16 a0_3) := (blk_cell BK101.out 3).trans rfl
                    have hcz16_4 : wc.cell? ⟨gb101, 4, none⟩ = some (.int .u16 a0_4) := (blk_cell BK101.out 4).trans rfl
                    have hcz16_5 : wc.cell? ⟨gb101, 5, none⟩ = some (.int .u16 a0_5) := (blk_cell BK101.out 5).trans rfl
                    have hcz16_6 : wc.cell? ⟨gb101, 6, none⟩ = some (.int .u8 a0_6) := (blk_cell BK101.out 6).trans rfl
                    have hcz16_7 : wc.cell? ⟨gb101, 7, none⟩ = some (.int .u16 a0_7) := (blk_cell BK101.out 7).trans rfl
                    have hcz16_8 : wc.cell? ⟨gb101, 8, none⟩ = some (.int .u16 a0_8) := (blk_cell BK101.out 8).trans rfl
                    have hcz16_9 : wc.cell? ⟨gb101, 9, none⟩ = some (.int .u16 a0_9) := (blk_cell BK101.out 9).trans rfl
                    have hcz16_10 : wc.cell? ⟨gb101, 10, none⟩ = some (.int .u8 a0_10) := (blk_cell BK101.out 10).trans rfl
                    have hcz16_11 : wc.cell? ⟨gb101, 11, none⟩ = some (.int .u16 a0_11) := (blk_cell BK101.out 11).trans rfl
                    have hcz16_12 : wc.cell? ⟨gb101, 12, none⟩ = some (.bool a0_12) := (blk_cell BK101.out 12).trans rfl
                    have hcz16_13 : wc.cell? ⟨gb101, 13, none⟩ = some (.int .u8 a0_13) := (blk_cell BK101.out 13).trans rfl
                    have hcz16_14 : wc.cell? ⟨gb101, 14, none⟩ = some (.int .u16 a0_14) := (blk_cell BK101.out 14).trans rfl
                    have hcz16_15 : wc.cell? ⟨gb101, 15, none⟩ = some (.int .u32 a0_15) := (blk_cell BK101.out 15).trans rfl
                    have hcz16_16 : wc.cell? ⟨gb101, 16, none⟩ = some (.int .u8 a0_16) := (blk_cell BK101.out 16).trans rfl
                    have hcz16_17 : wc.cell? ⟨gb101, 17, none⟩ = some (.int .u8 a0_17) := (blk_cell BK101.out 17).trans rfl
                    have hcz16_18 : wc.cell? ⟨gb101, 18, none⟩ = some (.string a0_18) := (blk_cell BK101.out 18).trans rfl
                    have hfz16_0 := blk_frozen BK101.out 0
                    have hfz16_1 := blk_frozen BK101.out 1
                    have hfz16_2 := blk_frozen BK101.out 2
                    have hfz16_3 := blk_frozen BK101.out 3
                    have hfz16_4 := blk_frozen BK101.out 4
                    have hfz16_5 := blk_frozen BK101.out 5
                    have hfz16_6 := blk_frozen BK101.out 6
                    have hfz16_7 := blk_frozen BK101.out 7
                    have hfz16_8 := blk_frozen BK101.out 8
                    have hfz16_9 := blk_frozen BK101.out 9
                    have hfz16_10 := blk_frozen BK101.out 10
                    have hfz16_11 := blk_frozen BK101.out 11
                    have hfz16_12 := blk_frozen BK101.out 12
                    have hfz16_13 := blk_frozen BK101.out 13
                    have hfz16_14 := blk_frozen BK101.out 14
                    have hfz16_15 := blk_frozen BK101.out 15
                    have hfz16_16 := blk_frozen BK101.out 16
                    have hfz16_17 := blk_frozen BK101.out 17
                    have hfz16_18 := blk_frozen BK101.out 18
                    go_wp2
                    go_ret
                    exact ⟨by first | rfl | (simp [errW_none, errW_some] <;> rfl) | (simp [*, errW_none, errW_some] <;> rfl), by repeat (first | (with_reducible first | exact HB.out | apply below_alloc | apply pw_below_drewN | apply below_drew1 | refine below_set ?_ GE101.out) | exact HB.out)⟩
                  · rw [if_neg c15] at H
                    have c15b0 : decide (1 ≤ (a0_18.size : Int)) = false := decide_eq_false c15
                    have c15b1 : decide (1 ≤ a0_18.size) = false := decide_eq_false (by omega)
                    clear c15
                    obtain rfl := Option.some.inj H
                    have hcz17_0 : wc.cell? ⟨gb101, 0, none⟩ = some (.int .i64 a0_0) := (blk_cell BK101.out 0).trans rfl
                    have hcz17_1 : wc.cell? ⟨gb101, 1, none⟩ = some (.int .u8 a0_1) := (blk_cell BK101.out 1).trans rfl
                    have hcz17_2 : wc.cell? ⟨gb101, 2, none⟩ = some (.int .u8 a0_2) := (blk_cell BK101.out 2).trans rfl
                    have hcz17_3 : wc.cell? ⟨gb101, 3, none⟩ = some (.int .u16 a0_3) := (blk_cell BK101.out 3).trans rfl
                    have hcz17_4 : wc.cell? ⟨gb101, 4, none⟩ = some (.int .u16 a0_4) := (blk_cell BK101.out 4).trans rfl
                    have hcz17_5 : wc.cell? ⟨gb101, 5, none⟩ = some (.int .u16 a0_5) := (blk_cell BK101.out 5).trans rfl
                    have hcz17_6 : wc.cell? ⟨gb101, 6, none⟩ = some (.int .u8 a0_6) := (blk_cell BK101.out 6).trans rfl
                    have hcz17_7 : wc.cell? ⟨gb101, 7, none⟩ = some (.int .u16 a0_7) := (blk_cell BK101.out 7).trans rfl
                    have hcz17_8 : wc.cell? ⟨gb101, 8, none⟩ = some (.int .u16 a0_8) := (blk_cell BK101.out 8).trans rfl
                    have hcz17_9 : wc.cell? ⟨gb101, 9, none⟩ = some (.int .u16 a0_9) := (blk_cell BK101.out 9).trans rfl
                    have hcz17_10 : wc.cell? ⟨gb101, 10, none⟩ = some (.int .u8 a0_10) := (blk_cell BK101.out 10).trans rfl
                    have hcz17_11 : wc.cell? ⟨gb101, 11, none⟩ = some (.int .u16 a0_11) := (blk_cell BK101.out 11).trans rfl
                    have hcz17_12 : wc.cell? ⟨gb101, 12, none⟩ = some (.bool a0_12) := (blk_cell BK101.out 12).trans rfl
                    have hcz17_13 : wc.cell? ⟨gb101, 13, none⟩ = some (.int .u8 a0_13) := (blk_cell BK101.out 13).trans rfl
                    have hcz17_14 : wc.cell? ⟨gb101, 14, none⟩ = some (.int .u16 a0_14) := (blk_cell BK101.out 14).trans rfl
                    have hcz17_15 : wc.cell? ⟨gb101, 15, none⟩ = some (.int .u32 a0_15) := (blk_cell BK101.out 15).trans rfl
                    have hcz17_16 : wc.cell? ⟨gb101, 16, none⟩ = some (.int .u8 a0_16) := (blk_cell BK101.out 16).trans rfl
                    have hcz17_17 : wc.cell? ⟨gb101, 17, none⟩ = some (.int .u8 a0_17) := (blk_cell BK101.out 17).trans rfl
                    have hcz17_18 : wc.cell? ⟨gb101, 18, none⟩ = some (.string a0_18) := (blk_cell BK101.out 18).trans rfl
                    have hfz17_0 := blk_frozen BK101.out 0
                    have hfz17_1 := blk_frozen BK101.out 1
                    have hfz17_2 := blk_frozen BK101.out 2
                    have hfz17_3 := blk_frozen BK101.out 3
                    have hfz17_4 := blk_frozen BK101.out 4
                    have hfz17_5 := blk_frozen BK101.out 5
                    have hfz17_6 := blk_frozen BK101.out 6
                    have hfz17_7 := blk_frozen BK101.out 7
                    have hfz17_8 := blk_frozen BK101.out 8
                    have hfz17_9 := blk_frozen BK101.out 9
                    have hfz17_10 := blk_frozen BK101.out 10
                    have hfz17_11 := blk_frozen BK101.out 11
                    have hfz17_12 := blk_frozen BK101.out 12
                    have hfz17_13 := blk_frozen BK101.out 13
                    have hfz17_14 := blk_frozen BK101.out 14
                    have hfz17_15 := blk_frozen BK101.out 15
                    have hfz17_16 := blk_frozen BK101.out 16
                    have hfz17_17 := blk_frozen BK101.out 17
                    have hfz17_18 := blk_frozen BK101.out 18
                    go_wp2
                    go_ret
                    exact ⟨by first | rfl | (simp [errW_none, errW_some] <;> rfl) | (simp [*, errW_none, errW_some] <;> rfl), by repeat (first | (with_reducible first | exact HB.out | apply below_alloc | apply pw_below_drewN | apply below_drew1 | refine below_set ?_ GE101.out) | exact HB.out)⟩
                · rw [if_neg c14] at H
                  have c14b0 : decide (a0_16 < a0_17) = false := decide_eq_false c14
                  clear c14
                  obtain rfl := Option.some.inj H
                  have hcz18_0 : wc.cell? ⟨gb101, 0, none⟩ = some (.int .i64 a0_0) := (blk_cell BK101.out 0).trans rfl
                  have hcz18_1 : wc.cell? ⟨gb101, 1, none⟩ = some (.int .u8 a0_1) := (blk_cell BK101.out 1).trans rfl
                  have hcz18_2 : wc.cell? ⟨gb101, 2, none⟩ = some (.int .u8 a0_2) := (blk_cell BK101.out 2).trans rfl
                  have hcz18_3 : wc.cell? ⟨gb101, 3, none⟩ = some (.int .u16 a0_3) := (blk_cell BK101.out 3).trans rfl
                  have hcz18_4 : wc.cell? ⟨gb101, 4, none⟩ = some (.int .u16 a0_4) := (blk_cell BK101.out 4).trans rfl
                  have hcz18_5 : wc.cell? ⟨gb101, 5, none⟩ = some (.int .u16 a0_5) := (blk_cell BK101.out 5).trans rfl
                  have hcz18_6 : wc.cell? ⟨gb101, 6, none⟩ = some (.int .u8 a0_6) := (blk_cell BK101.out 6).trans rfl
                  have hcz18_7 : wc.cell? ⟨gb101, 7, none⟩ = some (.int .u16 a0_7) := (blk_cell BK101.out 7).trans rfl
                  have hcz18_8 : wc.cell? ⟨gb101, 8, none⟩ = some (.int .u16 a0_8) := (blk_cell BK101.out 8).trans rfl
                  have hcz18_9 : wc.cell? ⟨gb101, 9, none⟩ = some (.int .u16 a0_9) := (blk_cell BK101.out 9).trans rfl
                  have hcz18_10 : wc.cell? ⟨gb101, 10, none⟩ = some (.int .u8 a0_10) := (blk_cell BK101.out 10).trans rfl
                  have hcz18_11 : wc.cell? ⟨gb101, 11, none⟩ = some (.int .u16 a0_11) := (blk_cell BK101.out 11).trans rfl
                  have hcz18_12 : wc.cell? ⟨gb101, 12, none⟩ = some (.bool a0_12) := (blk_cell BK101.out 12).trans rfl
                  have hcz18_13 : wc.cell? ⟨gb101, 13, none⟩ = some (.int .u8 a0_13) := (blk_cell BK101.out 13).trans rfl
                  have hcz18_14 : wc.cell? ⟨gb101, 14, none⟩ = some (.int .u16 a0_14) := (blk_cell BK101.out 14).trans rfl
                  have hcz18_15 : wc.cell? ⟨gb101, 15, none⟩ = some (.int .u32 a0_15) := (blk_cell BK101.out 15).trans rfl
                  have hcz18_16 : wc.cell? ⟨gb101, 16, none⟩ = some (.int .u8 a0_16) := (blk_cell BK101.out 16).trans rfl
                  have hcz18_17 : wc.cell? ⟨gb101, 17, none⟩ = some (.int .u8 a0_17) := (blk_cell BK101.out 17).trans rfl
                  have hcz18_18 : wc.cell? ⟨gb101, 18, none⟩ = some (.string a0_18) := (blk_cell BK101.out 18).trans rfl
                  have hfz18_0 := blk_frozen BK101.out 0
                  have hfz18_1 := blk_frozen BK101.out 1
                  have hfz18_2 := blk_frozen BK101.out 2
                  have hfz18_3 := blk_frozen BK101.out 3
                  have hfz18_4 := blk_frozen BK101.out 4
                  have hfz18_5 := blk_frozen BK101.out 5
                  have hfz18_6 := blk_frozen BK101.out 6
                  have hfz18_7 := blk_frozen BK101.out 7
                  have hfz18_8 := blk_frozen BK101.out 8
                  have hfz18_9 := blk_frozen BK101.out 9
                  have hfz18_10 := blk_frozen BK101.out 10
                  have hfz18_11 := blk_frozen BK101.out 11
                  have hfz18_12 := blk_frozen BK101.out 12
                  have hfz18_13 := blk_frozen BK101.out 13
                  have hfz18_14 := blk_frozen BK101.out 14
                  have hfz18_15 := blk_frozen BK101.out 15
                  have hfz18_16 := blk_frozen BK101.out 16
                  have hfz18_17 := blk_frozen BK101.out 17
                  have hfz18_18 := blk_frozen BK101.out 18
                  go_wp2
                  go_ret
                  exact ⟨by first | rfl | (simp [errW_none, errW_some] <;> rfl) | (simp [*, errW_none, errW_some] <;> rfl), by repeat (first | (with_reducible first | exact HB.out | apply below_alloc | apply pw_below_drewN | apply below_drew1 | refine below_set ?_ GE101.out) | exact HB.out)⟩
              · rw [if_neg c13] at H
                have c13b0 : decide (a0_17 ≤ 4) = false := decide_eq_false c13
                clear c13
                obtain rfl := Option.some.inj H
                have hcz19_0 : wc.cell? ⟨gb101, 0, none⟩ = some (.int .i64 a0_0) := (blk_cell BK101.out 0).trans rfl
                have hcz19_1 : wc.cell? ⟨gb101, 1, none⟩ = some (.int .u8 a0_1) := (blk_cell BK101.out 1).trans rfl
                have hcz19_2 : wc.cell? ⟨gb101, 2, none⟩ = some (.int .u8 a0_2) := (blk_cell BK101.out 2).trans rfl
                have hcz19_3 : wc.cell? ⟨gb101, 3, none⟩ = some (.int .u16 a0_3) := (blk_cell BK101.out 3).trans rfl
                have hcz19_4 : wc.cell? ⟨gb101, 4, none⟩ = some (.int .u16 a0_4) := (blk_cell BK101.out 4).trans rfl
                have hcz19_5 : wc.cell? ⟨gb101, 5, none⟩ = some (.int .u16 a0_5) := (blk_cell BK101.out 5).trans rfl
                have hcz19_6 : wc.cell? ⟨gb101, 6, none⟩ = some (.int .u8 a0_6) := (blk_cell BK101.out 6).trans rfl
                have hcz19_7 : wc.cell? ⟨gb101, 7, none⟩ = some (.int .u16 a0_7) := (blk_cell BK101.out 7).trans rfl
                have hcz19_8 : wc.cell? ⟨gb101, 8, none⟩ = some (.int .u16 a0_8) := (blk_cell BK101.out 8).trans rfl
                have hcz19_9 : wc.cell? ⟨gb101, 9, none⟩ = some (.int .u16 a0_9) := (blk_cell BK101.out 9).trans rfl
                have hcz19_10 : wc.cell? ⟨gb101, 10, none⟩ = some (.int .u8 a0_10) := (blk_cell BK101.out 10).trans rfl
                have hcz19_11 : wc.cell? ⟨gb101, 11, none⟩ = some (.int .u16 a0_11) := (blk_cell BK101.out 11).trans rfl
                have hcz19_12 : wc.cell? ⟨gb101, 12, none⟩ = some (.bool a0_12) := (blk_cell BK101.out 12).trans rfl
                have hcz19_13 : wc.cell? ⟨gb101, 13, none⟩ = some (.int .u8 a0_13) := (blk_cell BK101.out 13).trans rfl
                have hcz19_14 : wc.cell? ⟨gb101, 14, none⟩ = some (.int .u16 a0_14) := (blk_cell BK101.out 14).trans rfl
                have hcz19_15 : wc.cell? ⟨gb101, 15, none⟩ = some (.int .u32 a0_15) := (blk_cell BK101.out 15).trans rfl
                have hcz19_16 : wc.cell? ⟨gb101, 16, none⟩ = some (.int .u8 a0_16) := (blk_cell BK101.out 16).trans rfl
                have hcz19_17 : wc.cell? ⟨gb101, 17, none⟩ = some (.int .u8 a0_17) := (blk_cell BK101.out 17).trans rfl
                have hcz19_18 : wc.cell? ⟨gb101, 18, none⟩ = some (.string a0_18) := (blk_cell BK101.out 18).trans rfl
                have hfz19_0 := blk_frozen BK101.out 0
                have hfz19_1 := blk_frozen BK101.out 1
                have hfz19_2 := blk_frozen BK101.out 2
                have hfz19_3 := blk_frozen BK101.out 3
                have hfz19_4 := blk_frozen BK101.out 4
                have hfz19_5 := blk_frozen BK101.out 5
                have hfz19_6 := blk_frozen BK101.out 6
                have hfz19_7 := blk_frozen BK101.out 7
                have hfz19_8 := blk_frozen BK101.out 8
                have hfz19_9 := blk_frozen BK101.out 9
                have hfz19_10 := blk_frozen BK101.out 10
                have hfz19_11 := blk_frozen BK101.out 11
                have hfz19_12 := blk_frozen BK101.out 12
                have hfz19_13 := blk_frozen BK101.out 13
                have hfz19_14 := blk_frozen BK101.out 14
                have hfz19_15 := blk_frozen BK101.out 15
                have hfz19_16 := blk_frozen BK101.out 16
                have hfz19_17 := blk_frozen BK101.out 17
                have hfz19_18 := blk_frozen BK101.out 18
                go_wp2
                go_ret
                exact ⟨by first | rfl | (simp [errW_none, errW_some] <;> rfl) | (simp [*, errW_none, errW_some] <;> rfl), by repeat (first | (with_reducible first | exact HB.out | apply below_alloc | apply pw_below_drewN | apply below_drew1 | refine below_set ?_ GE101.out) | exact HB.out)⟩
            · rw [if_neg c12] at H
              have c12b0 : decide (1 ≤ a0_17) = false := decide_eq_false c12
              clear c12
              obtain rfl := Option.some.inj H
              have hcz20_0 : wc.cell? ⟨gb101, 0, none⟩ = some (.int .i64 a0_0) := (blk_cell BK101.out 0).trans rfl
              have hcz20_1 : wc.cell? ⟨gb101, 1, none⟩ = some (.int .u8 a0_1) := (blk_cell BK101.out 1).trans rfl
              have hcz20_2 : wc.cell? ⟨gb101, 2, none⟩ = some (.int .u8 a0_2) := (blk_cell BK101.out 2).trans rfl
              have hcz20_3 : wc.cell? ⟨gb101, 3, none⟩ = some (.int .u16 a0_3) := (blk_cell BK101.out 3).trans rfl
              have hcz20_4 : wc.cell? ⟨gb101, 4, none⟩ = some (.int .u16 a0_4) := (blk_cell BK101.out 4).trans rfl
              have hcz20_5 : wc.cell? ⟨gb101, 5, none⟩ = some (.int .u16 a0_5) := (blk_cell BK101.out 5).trans rfl
              have hcz20_6 : wc.cell? ⟨gb101, 6, none⟩ = some (.int .u8 a0_6) := (blk_cell BK101.out 6).trans rfl
              have hcz20_7 : wc.cell? ⟨gb101, 7, none⟩ = some (.int .u16 a0_7) := (blk_cell BK101.out 7).trans rfl
              have hcz20_8 : wc.cell? ⟨gb101, 8, none⟩ = some (.int .u16 a0_8) := (blk_cell BK101.out 8).trans rfl
              have hcz20_9 : wc.cell? ⟨gb101, 9, none⟩ = some (.int .u16 a0_9) := (blk_cell BK101.out 9).trans rfl
              have hcz20_10 : wc.cell? ⟨gb101, 10, none⟩ = some (.int .u8 a0_10) := (blk_cell BK101.out 10).trans rfl
              have hcz20_11 : wc.cell? ⟨gb101, 11, none⟩ = some (.int .u16 a0_11) := (blk_cell BK101.out 11).trans rfl
              have hcz20_12 : wc.cell? ⟨gb101, 12, none⟩ = some (.bool a0_12) := (blk_cell BK101.out 12).trans rfl
              have hcz20_13 : wc.cell? ⟨gb101, 13, none⟩ = some (.int .u8 a0_13) := (blk_cell BK101.out 13).trans rfl
              have hcz20_14 : wc.cell? ⟨gb101, 14, none⟩ = some (.int .u16 a0_14) := (blk_cell BK101.out 14).trans rfl
              have hcz20_15 : wc.cell? ⟨gb101, 15, none⟩ = some (.int .u32 a0_15) := (blk_cell BK101.out 15).trans rfl
              have hcz20_16 : wc.cell? ⟨gb101, 16, none⟩ = some (.int .u8 a0_16) := (blk_cell BK101.out 16).trans rfl
              have hcz20_17 : wc.cell? ⟨gb101, 17, none⟩ = some (.int .u8 a0_17) := (blk_cell BK101.out 17).trans rfl
              have hcz20_18 : wc.cell? ⟨gb101, 18, none⟩ = some (.string a0_18) := (blk_cell BK101.out 18).trans rfl
              have hfz20_0 := blk_frozen BK101.out 0
              have hfz20_1 := blk_frozen BK101.out 1
              have hfz20_2 := blk_frozen BK101.out 2
              have hfz20_3 := blk_frozen BK101.out 3
              have hfz20_4 := blk_frozen BK101.out 4
              have hfz20_5 := blk_frozen BK101.out 5
              have hfz20_6 := blk_frozen BK101.out 6
              have hfz20_7 := blk_frozen BK101.out 7
              have hfz20_8 := blk_frozen BK101.out 8
              have hfz20_9 := blk_frozen BK101.out 9
              have hfz20_10 := blk_frozen BK101.out 10
              have hfz20_11 := blk_frozen BK101.out 11
              have hfz20_12 := blk_frozen BK101.out 12
              have hfz20_13 := blk_frozen BK101.out 13
              have hfz20_14 := blk_frozen BK101.out 14
              have hfz20_15 := blk_frozen BK101.out 15
              have hfz20_16 := blk_frozen BK101.out 16
              have hfz20_17 := blk_frozen BK101.out 17
              have hfz20_18 := blk_frozen BK101.out 18
              go_wp2
              go_ret
              exact ⟨by first | rfl | (simp [errW_none, errW_some] <;> rfl) | (simp [*, errW_none, errW_some] <;> rfl), by repeat (first | (with_reducible first | exact HB.out | apply below_alloc | apply pw_below_drewN | apply below_drew1 | refine below_set ?_ GE101.out) | exact HB.out)⟩
          · rw [if_neg c11] at H
            have c11b0 : decide (a0_13 < 16) = false := decide_eq_false c11
            clear c11
            obtain rfl := Option.some.inj H
            have hcz21_0 : wc.cell? ⟨gb101, 0, none⟩ = some (.int .i64 a0_0) := (blk_cell BK101.out 0).trans rfl
            have hcz21_1 : wc.cell? ⟨gb101, 1, none⟩ = some (.int .u8 a0_1) := (blk_cell BK101.out 1).trans rfl
            have hcz21_2 : wc.cell? ⟨gb101, 2, none⟩ = some (.int .u8 a0_2) := (blk_cell BK101.out 2).trans rfl
            have hcz21_3 : wc.cell? ⟨gb101, 3, none⟩ = some (.int .u16 a0_3) := (blk_cell BK101.out 3).trans rfl
            have hcz21_4 : wc.cell? ⟨gb101, 4, none⟩ = some (.int .u16 a0_4) := (blk_cell BK101.out 4).trans rfl
            have hcz21_5 : wc.cell? ⟨gb101, 5, none⟩ = some (.int .u16 a0_5) := (blk_cell BK101.out 5).trans rfl
            have hcz21_6 : wc.cell? ⟨gb101, 6, none⟩ = some (.int .u8 a0_6) := (blk_cell BK101.out 6).trans rfl
            have hcz21_7 : wc.cell? ⟨gb101, 7, none⟩ = some (.int .u16 a0_7) := (blk_cell BK101.out 7).trans rfl
            have hcz21_8 : wc.cell? ⟨gb101, 8, none⟩ = some (.int .u16 a0_8) := (blk_cell BK101.out 8).trans rfl
            have hcz21_9 : wc.cell? ⟨gb101, 9, none⟩ = some (.int .u16 a0_9) := (blk_cell BK101.out 9).trans rfl
            have hcz21_10 : wc.cell? ⟨gb101, 10, none⟩ = some (.int .u8 a0_10) := (blk_cell BK101.out 10).trans rfl
            have hcz21_11 : wc.cell? ⟨gb101, 11, none⟩ = some (.int .u16 a0_11) := (blk_cell BK101.out 11).trans rfl
            have hcz21_12 : wc.cell? ⟨gb101, 12, none⟩ = some (.bool a0_12) := (blk_cell BK101.out 12).trans rfl
            have hcz21_13 : wc.cell? ⟨gb101, 13, none⟩ = some (.int .u8 a0_13) := (blk_cell BK101.out 13).trans rfl
            have hcz21_14 : wc.cell? ⟨gb101, 14, none⟩ = some (.int .u16 a0_14) := (blk_cell BK101.out 14).trans rfl
            have hcz21_15 : wc.cell? ⟨gb101, 15, none⟩ = some (.int .u32 a0_15) := (blk_cell BK101.out 15).trans rfl
            have hcz21_16 : wc.cell? ⟨gb101, 16, none⟩ = some (.int .u8 a0_16) := (blk_cell BK101.out 16).trans rfl
            have hcz21_17 : wc.cell? ⟨gb101, 17, none⟩ = some (.int .u8 a0_17) := (blk_cell BK101.out 17).trans rfl
            have hcz21_18 : wc.cell? ⟨gb101, 18, none⟩ = some (.string a0_18) := (blk_cell BK101.out 18).trans rfl
            have hfz21_0 := blk_frozen BK101.out 0
            have hfz21_1 := blk_frozen BK101.out 1
            have hfz21_2 := blk_frozen BK101.out 2
            have hfz21_3 := blk_frozen BK101.out 3
            have hfz21_4 := blk_frozen BK101.out 4
            have hfz21_5 := blk_frozen BK101.out 5
            have hfz21_6 := blk_frozen BK101.out 6
            have hfz21_7 := blk_frozen BK101.out 7
            have hfz21_8 := blk_frozen BK101.out 8
            have hfz21_9 := blk_frozen BK101.out 9
            have hfz21_10 := blk_frozen BK101.out 10
            have hfz21_11 := blk_frozen BK101.out 11
            have hfz21_12 := blk_frozen BK101.out 12
            have hfz21_13 := blk_frozen BK101.out 13
            have hfz21_14 := blk_frozen BK101.out 14
            have hfz21_15 := blk_frozen BK101.out 15
            have hfz21_16 := blk_frozen BK101.out 16
            have hfz21_17 := blk_frozen BK101.out 17
            have hfz21_18 := blk_frozen BK101.out 18
            go_wp2
            go_ret
            exact ⟨by first | rfl | (simp [errW_none, errW_some] <;> rfl) | (simp [*, errW_none, errW_some] <;> rfl), by repeat (first | (with_reducible first | exact HB.out | apply below_alloc | apply pw_below_drewN | apply below_drew1 | refine below_set ?_ GE101.out) | exact HB.out)⟩
        · rw [if_neg c10] at H
          have c10b0 : (a0_0 == 4) = false := beq_eq_false_iff_ne.mpr c10
          have c10b1 : (a0_0 != 4) = true := bne_iff_ne.mpr c10
          by_cases c22 : a0_13 = 0
          · rw [if_pos c22] at H
            have c22b0 : (a0_13 == 0) = true := beq_iff_eq.mpr c22
            have c22b1 : (a0_13 != 0) = false := bne_eq_false_iff_eq.mpr c22
            clear c22
            by_cases c23 : (a0_14 == 0 && (a0_15 == 0)) = true
            · rw [if_pos c23] at H
              have c23b0 : (a0_14 == 0 && (a0_15 == 0)) = true := c23
              (try (have c23b1 : decide (a0_14 = 0 && (a0_15 == 0)) = true := by simpa using c23))
              (try (have c23b2 : (a0_14 == 0 && (a0_15 == 0)) = true := by simpa using c23))
              clear c23
              by_cases c24 : a0_16 = 0
              · rw [if_pos c24] at H
                have c24b0 : (a0_16 == 0) = true := beq_iff_eq.mpr c24
                have c24b1 : (a0_16 != 0) = false := bne_eq_false_iff_eq.mpr c24
                clear c24
                by_cases c25 : a0_17 = 0
                · rw [if_pos c25] at H
                  have c25b0 : (a0_17 == 0) = true := beq_iff_eq.mpr c25
                  have c25b1 : (a0_17 != 0) = false := bne_eq_false_iff_eq.mpr c25
                  clear c25
                  obtain rfl := Option.some.inj H
                  have hcz26_0 : wc.cell? ⟨gb101, 0, none⟩ = some (.int .i64 a0_0) := (blk_cell BK101.out 0).trans rfl
                  have hcz26_1 : wc.cell? ⟨gb101, 1, none⟩ = some (.int .u8 a0_1) := (blk_cell BK101.out 1).trans rfl
                  have hcz26_2 : wc.cell? ⟨gb101, 2, none⟩ = some (.int .u8 a0_2) := (blk_cell BK101.out 2).trans rfl
                  have hcz26_3 : wc.cell? ⟨gb101, 3, none⟩ = some (.int .u16 a0_3) := (blk_cell BK101.out 3).trans rfl
                  have hcz26_4 : wc.cell? ⟨gb101, 4, none⟩ = some (.int .u16 a0_4) := (blk_cell BK101.out 4).trans rfl
                  have hcz26_5 : wc.cell? ⟨gb101, 5, none⟩ = some (.int .u16 a0_5) := (blk_cell BK101.out 5).trans rfl
                  have hcz26_6 : wc.cell? ⟨gb101, 6, none⟩ = some (.int .u8 a0_6) := (blk_cell BK101.out 6).trans rfl
                  have hcz26_7 : wc.cell? ⟨gb101, 7, none⟩ = some (.int .u16 a0_7) := (blk_cell BK101.out 7).trans rfl
                  have hcz26_8 : wc.cell? ⟨gb101, 8, none⟩ = some (.int .u16 a0_8) := (blk_cell BK101.out 8).trans rfl
                  have hcz26_9 : wc.cell? ⟨gb101, 9, none⟩ = some (.int .u16 a0_9) := (blk_cell BK101.out 9).trans rfl
                  have hcz26_10 : wc.cell? ⟨gb101, 10, none⟩ = some (.int .u8 a0_10) := (blk_cell BK101.out 10).trans rfl
                  have hcz26_11 : wc.cell? ⟨gb101, 11, none⟩ = some (.int .u16 a0_11) := (blk_cell BK101.out 11).trans rfl
                  have hcz26_12 : wc.cell? ⟨gb101, 12, none⟩ = some (.bool a0_12) := (blk_cell BK101.out 12).trans rfl
                  have hcz26_13 : wc.cell? ⟨gb101, 13, none⟩ = some (.int .u8 a0_13) := (blk_cell BK101.out 13).trans rfl
                  have hcz26_14 : wc.cell? ⟨gb101, 14, none⟩ = some (.int .u16 a0_14) := (blk_cell BK101.out 14).trans rfl
                  have hcz26_15 : wc.cell? ⟨gb101, 15, none⟩ = some (.int .u32 a0_15) := (blk_cell BK101.out 15).trans rfl
                  have hcz26_16 : wc.cell? ⟨gb101, 16, none⟩ = some (.int .u8 a0_16) := (blk_cell BK101.out 16).trans rfl
                  have hcz26_17 : wc.cell? ⟨gb101, 17, none⟩ = some (.int .u8 a0_17) := (blk_cell BK101.out 17).trans rfl
                  have hcz26_18 : wc.cell? ⟨gb101, 18, none⟩ = some (.string a0_18) := (blk_cell BK101.out 18).trans rfl
                  have hfz26_0 := blk_frozen BK101.out 0
                  have hfz26_1 := blk_frozen BK101.out 1
                  have hfz26_2 := blk_frozen BK101.out 2
                  have hfz26_3 := blk_frozen BK101.out 3
                  have hfz26_4 := blk_frozen BK101.out 4
                  have hfz26_5 := blk_frozen BK101.out 5
                  have hfz26_6 := blk_frozen BK101.out 6
                  have hfz26_7 := blk_frozen BK101.out 7
                  have hfz26_8 := blk_frozen BK101.out 8
                  have hfz26_9 := blk_frozen BK101.out 9
                  have hfz26_10 := blk_frozen BK101.out 10
                  have hfz26_11 := blk_frozen BK101.out 11
                  have hfz26_12 := blk_frozen BK101.out 12
                  have hfz26_13 := blk_frozen BK101.out 13
                  have hfz26_14 := blk_frozen BK101.out 14
                  have hfz26_15 := blk_frozen BK101.out 15
                  have hfz26_16 := blk_frozen BK101.out 16
                  have hfz26_17 := blk_frozen BK101.out 17
                  have hfz26_18 := blk_frozen BK101.out 18
                  go_wp2
                  go_ret
                  exact ⟨by first | rfl | (simp [errW_none, errW_some] <;> rfl) | (simp [*, errW_none, errW_some] <;> rfl), by repeat (first | (with_reducible first | exact HB.out | apply below_alloc | apply pw_below_drewN | apply below_drew1 | refine below_set ?_ GE101.out) | exact HB.out)⟩
                · rw [if_neg c25] at H
                  have c25b0 : (a0_17 == 0) = false := beq_eq_false_iff_ne.mpr c25
                  have c25b1 : (a0_17 != 0) = true := bne_iff_ne.mpr c25
                  obtain rfl := Option.some.inj H
                  have hcz27_0 : wc.cell? ⟨gb101, 0, none⟩ = some (.int .i64 a0_0) := (blk_cell BK101.out 0).trans rfl
                  have hcz27_1 : wc.cell? ⟨gb101, 1, none⟩ = some (.int .u8 a0_1) := (blk_cell BK101.out 1).trans rfl
                  have hcz27_2 : wc.cell? ⟨gb101, 2, none⟩ = some (.int .u8 a0_2) := (blk_cell BK101.out 2).trans rfl
                  have hcz27_3 : wc.cell? ⟨gb101, 3, none⟩ = some (.int .u16 a0_3) := (blk_cell BK101.out 3).trans rfl
                  have hcz27_4 : wc.cell? ⟨gb101, 4, none⟩ = some (.int .u16 a0_4) := (blk_cell BK101.out 4).trans rfl
                  have hcz27_5 : wc.cell? ⟨gb101, 5, none⟩ = some (.int .u16 a0_5) := (blk_cell BK101.out 5).trans rfl
                  have hcz27_6 : wc.cell? ⟨gb101, 6, none⟩ = some (.int .u8 a0_6) := (blk_cell BK101.out 6).trans rfl
                  have hcz27_7 : wc.cell? ⟨gb101, 7, none⟩ = some (.int .u16 a0_7) := (blk_cell BK101.out 7).trans rfl
                  have hcz27_8 : wc.cell? ⟨gb101, 8, none⟩ = some (.int .u16 a0_8) := (blk_cell BK101.out 8).trans rfl
                  have hcz27_9 : wc.cell? ⟨gb101, 9, none⟩ = some (.int .u16 a0_9) := (blk_cell BK101.out 9).trans rfl
                  have hcz27_10 : wc.cell? ⟨gb101, 10, none⟩ = some (.int .u8 a0_10) := (blk_cell BK101.out 10).trans rfl
                  have hcz27_11 : wc.cell? ⟨gb101, 11, none⟩ = some (.int .u16 a0_11) := (blk_cell BK101.out 11).trans rfl
                  have hcz27_12 : wc.cell? ⟨gb101, 12, none⟩ = some (.bool a0_12) := (blk_cell BK101.out 12).trans rfl
                  have hcz27_13 : wc.cell? ⟨gb101, 13, none⟩ = some (.int .u8 a0_13) := (blk_cell BK101.out 13).trans rfl
                  have hcz27_14 : wc.cell? ⟨gb101, 14, none⟩ = some (.int .u16 a0_14) := (blk_cell BK101.out 14).trans rfl
                  have hcz27_15 : wc.cell? ⟨gb101, 15, none⟩ = some (.int .u32 a0_15) := (blk_cell BK101.out 15).trans rfl
                  have hcz27_16 : wc.cell? ⟨gb101, 16, none⟩ = some (.int .u8 a0_16) := (blk_cell BK101.out 16).trans rfl
                  have hcz27_17 : wc.cell? ⟨gb101, 17, none⟩ = some (.int .u8 a0_17) := (blk_cell BK101.out 17).trans rfl
                  have hcz27_18 : wc.cell? ⟨gb101, 18, none⟩ = some (.string a0_18) := (blk_cell BK101.out 18).trans rfl
                  have hfz27_0 := blk_frozen BK101.out 0
                  have hfz27_1 := blk_frozen BK101.out 1
                  have hfz27_2 := blk_frozen BK101.out 2
                  have hfz27_3 := blk_frozen BK101.out 3
                  have hfz27_4 := blk_frozen BK101.out 4
                  have hfz27_5 := blk_frozen BK101.out 5
                  have hfz27_6 := blk_frozen BK101.out 6
                  have hfz27_7 := blk_frozen BK101.out 7
                  have hfz27_8 := blk_frozen BK101.out 8
                  have hfz27_9 := blk_frozen BK101.out 9
                  have hfz27_10 := blk_frozen BK101.out 10
                  have hfz27_11 := blk_frozen BK101.out 11
                  have hfz27_12 := blk_frozen BK101.out 12
                  have hfz27_13 := blk_frozen BK101.out 13
                  have hfz27_14 := blk_frozen BK101.out 14
                  have hfz27_15 := blk_frozen BK101.out 15
                  have hfz27_16 := blk_frozen BK101.out 16
                  have hfz27_17 := blk_frozen BK101.out 17
                  have hfz27_18 := blk_frozen BK101.out 18
                  go_wp2
                  go_ret
                  exact ⟨by first | rfl | (simp [errW_none, errW_some] <;> rfl) | (simp [*, errW_none, errW_some] <;> rfl), by repeat (first | (with_reducible first | exact HB.out | apply below_alloc | apply pw_below_drewN | apply below_drew1 | refine below_set ?_ GE101.out) | exact HB.out)⟩
              · rw [if_neg c24] at H
                have c24b0 : (a0_16 == 0) = false := beq_eq_false_iff_ne.mpr c24
                have c24b1 : (a0_16 != 0) = true := bne_iff_ne.mpr c24
                obtain rfl := Option.some.inj H
                have hcz28_0 : wc.cell? ⟨gb101, 0, none⟩ = some (.int .i64 a0_0) := (blk_cell BK101.out 0).trans rfl
                have hcz28_1 : wc.cell? ⟨gb101, 1, none⟩ = some (.int .u8 a0_1) := (blk_cell BK101.out 1).trans rfl
                have hcz28_2 : wc.cell? ⟨gb101, 2, none⟩ = some (.int .u8 a0_2) := (blk_cell BK101.out 2).trans rfl
                have hcz28_3 : wc.cell? ⟨gb101, 3, none⟩ = some (.int .u16 a0_3) := (blk_cell BK101.out 3).trans rfl
                have hcz28_4 : wc.cell? ⟨gb101, 4, none⟩ = some (.int .u16 a0_4) := (blk_cell BK101.out 4).trans rfl
                have hcz28_5 : wc.cell? ⟨gb101, 5, none⟩ = some (.int .u16 a0_5) := (blk_cell BK101.out 5).trans rfl
                have hcz28_6 : wc.cell? ⟨gb101, 6, none⟩ = some (.int .u8 a0_6) := (blk_cell BK101.out 6).trans rfl
                have hcz28_7 : wc.cell? ⟨gb101, 7, none⟩ = some (.int .u16 a0_7) := (blk_cell BK101.out 7).trans rfl
                have hcz28_8 : wc.cell? ⟨gb101, 8, none⟩ = some (.int .u16 a0_8) := (blk_cell BK101.out 8).trans rfl
                have hcz28_9 : wc.cell? ⟨gb101, 9, none⟩ = some (.int .u16 a0_9) := (blk_cell BK101.out 9).trans rfl
                have hcz28_10 : wc.cell? ⟨gb101, 10, none⟩ = some (.int .u8 a0_10) := (blk_cell BK101.out 10).trans rfl
                have hcz28_11 : wc.cell? ⟨gb101, 11, none⟩ = some (.int .u16 a0_11) := (blk_cell BK101.out 11).trans rfl
                have hcz28_12 : wc.cell? ⟨gb101, 12, none⟩ = some (.bool a0_12) := (blk_cell BK101.out 12).trans rfl
                have hcz28_13 : wc.cell? ⟨gb101, 13, none⟩ = some (.int .u8 a0_13) := (blk_cell BK101.out 13).trans rfl
                have hcz28_14 : wc.cell? ⟨gb101, 14, none⟩ = some (.int .u16 a0_14) := (blk_cell BK101.out 14).trans rfl
                have hcz28_15 : wc.cell? ⟨gb101, 15, none⟩ = some (.int .u32 a0_15) := (blk_cell BK101.out 15).trans rfl
                have hcz28_16 : wc.cell? ⟨gb101, 16, none⟩ = some (.int .u8 a0_16) := (blk_cell BK101.out 16).trans rfl
                have hcz28_17 : wc.cell? ⟨gb101, 17, none⟩ = some (.int .u8 a0_17) := (blk_cell BK101.out 17).trans rfl
                have hcz28_18 : wc.cell? ⟨gb101, 18, none⟩ = some (.string a0_18) := (blk_cell BK101.out 18).trans rfl
                have hfz28_0 := blk_frozen BK101.out 0
                have hfz28_1 := blk_frozen BK101.out 1
                have hfz28_2 := blk_frozen BK101.out 2
                have hfz28_3 := blk_frozen BK101.out 3
                have hfz28_4 := blk_frozen BK101.out 4
                have hfz28_5 := blk_frozen BK101.out 5
                have hfz28_6 := blk_frozen BK101.out 6
                have hfz28_7 := blk_frozen BK101.out 7
                have hfz28_8 := blk_frozen BK101.out 8
                have hfz28_9 := blk_frozen BK101.out 9
                have hfz28_10 := blk_frozen BK101.out 10
                have hfz28_11 := blk_frozen BK101.out 11
                have hfz28_12 := blk_frozen BK101.out 12
                have hfz28_13 := blk_frozen BK101.out 13
                have hfz28_14 := blk_frozen BK101.out 14
                have hfz28_15 := blk_frozen BK101.out 15
                have hfz28_16 := blk_frozen BK101.out 16
                have hfz28_17 := blk_frozen BK101.out 17
                have hfz28_18 := blk_frozen BK101.out 18
                go_wp2
                go_ret
                exact ⟨by first | rfl | (simp [errW_none, errW_some] <;> rfl) | (simp [*, errW_none, errW_some] <;> rfl), by repeat (first | (with_reducible first | exact HB.out | apply below_alloc | apply pw_below_drewN | apply below_drew1 | refine below_set ?_ GE101.out) | exact HB.out)⟩
            · rw [if_neg c23] at H
              have c23b0 : (a0_14 == 0 && (a0_15 == 0)) = false := by simpa using c23
              (try (have c23b1 : decide (a0_14 = 0 && (a0_15 == 0)) = false := by simpa using c23))
              (try (have c23b2 : (a0_14 == 0 && (a0_15 == 0)) = false := by simpa using c23))
              (try (have c23b3 : ¬ (a0_14 = 0 && (a0_15 == 0)) := by simpa using c23))
              clear c23
              obtain rfl := Option.some.inj H
              have hcz29_0 : wc.cell? ⟨gb101, 0, none⟩ = some (.int .i64 a0_0) := (blk_cell BK101.out 0).trans rfl
              have hcz29_1 : wc.cell? ⟨gb101, 1, none⟩ = some (.int .u8 a0_1) := (blk_cell BK101.out 1).trans rfl
              have hcz29_2 : wc.cell? ⟨gb101, 2, none⟩ = some (.int .u8 a0_2) := (blk_cell BK101.out 2).trans rfl
              have hcz29_3 : wc.cell? ⟨gb101, 3, none⟩ = some (.int .u16 a0_3) := (blk_cell BK101.out 3).trans rfl
              have hcz29_4 : wc.cell? ⟨gb101, 4, none⟩ = some (.int .u16 a0_4) := (blk_cell BK101.out 4).trans rfl
              have hcz29_5 : wc.cell? ⟨gb101, 5, none⟩ = some (.int .u16 a0_5) := (blk_cell BK101.out 5).trans rfl
              have hcz29_6 : wc.cell? ⟨gb101, 6, none⟩ = some (.int .u8 a0_6) := (blk_cell BK101.out 6).trans rfl
              have hcz29_7 : wc.cell? ⟨gb101, 7, none⟩ = some (.int .u16 a0_7) := (blk_cell BK101.out 7).trans rfl
              have hcz29_8 : wc.cell? ⟨gb101, 8, none⟩ = some (.int .u16 a0_8) := (blk_cell BK101.out 8).trans rfl
              have hcz29_9 : wc.cell? ⟨gb101, 9, none⟩ = some (.int .u16 a0_9) := (blk_cell BK101.out 9).trans rfl
              have hcz29_10 : wc.cell? ⟨gb101, 10, none⟩ = some (.int .u8 a0_10) := (blk_cell BK101.out 10).trans rfl
              have hcz29_11 : wc.cell? ⟨gb101, 11, none⟩ = some (.int .u16 a0_11) := (blk_cell BK101.out 11).trans rfl
              have hcz29_12 : wc.cell? ⟨gb101, 12, none⟩ = some (.bool a0_12) := (blk_cell BK101.out 12).trans rfl
              have hcz29_13 : wc.cell? ⟨gb101, 13, none⟩ = some (.int .u8 a0_13) := (blk_cell BK101.out 13).trans rfl
              have hcz29_14 : wc.cell? ⟨gb101, 14, none⟩ = some (.int .u16 a0_14) := (blk_cell BK101.out 14).trans rfl
              have hcz29_15 : wc.cell? ⟨gb101, 15, none⟩ = some (.int .u32 a0_15) := (blk_cell BK101.out 15).trans rfl
              have hcz29_16 : wc.cell? ⟨gb101, 16, none⟩ = some (.int .u8 a0_16) := (blk_cell BK101.out 16).trans rfl
              have hcz29_17 : wc.cell? ⟨gb101, 17, none⟩ = some (.int .u8 a0_17) := (blk_cell BK101.out 17).trans rfl
              have hcz29_18 : wc.cell? ⟨gb101, 18, none⟩ = some (.string a0_18) := (blk_cell BK101.out 18).trans rfl
              have hfz29_0 := blk_frozen BK101.out 0
              have hfz29_1 := blk_frozen BK101.out 1
              have hfz29_2 := blk_frozen BK101.out 2
              have hfz29_3 := blk_frozen BK101.out 3
              have hfz29_4 := blk_frozen BK101.out 4
              have hfz29_5 := blk_frozen BK101.out 5
              have hfz29_6 := blk_frozen BK101.out 6
              have hfz29_7 := blk_frozen BK101.out 7
              have hfz29_8 := blk_frozen BK101.out 8
              have hfz29_9 := blk_frozen BK101.out 9
              have hfz29_10 := blk_frozen BK101.out 10
              have hfz29_11 := blk_frozen BK101.out 11
              have hfz29_12 := blk_frozen BK101.out 12
              have hfz29_13 := blk_frozen BK101.out 13
              have hfz29_14 := blk_frozen BK101.out 14
              have hfz29_15 := blk_frozen BK101.out 15
              have hfz29_16 := blk_frozen BK101.out 16
              have hfz29_17 := blk_frozen BK101.out 17
              have hfz29_18 := blk_frozen BK101.out 18
              go_wp2
              go_ret
              exact ⟨by first | rfl | (simp [errW_none, errW_some] <;> rfl) | (simp [*, errW_none, errW_some] <;> rfl), by repeat (first | (with_reducible first | exact HB.out | apply below_alloc | apply pw_below_drewN | apply below_drew1 | refine below_set ?_ GE101.out) | exact HB.out)⟩
          · rw [if_neg c22] at H
            have c22b0 : (a0_13 == 0) = false := beq_eq_false_iff_ne.mpr c22
            have c22b1 : (a0_13 != 0) = true := bne_iff_ne.mpr c22
            obtain rfl := Option.some.inj H
            have hcz30_0 : wc.cell? ⟨gb101, 0, none⟩ = some (.int .i64 a0_0) := (blk_cell BK101.out 0).trans rfl
            have hcz30_1 : wc.cell? ⟨gb101, 1, none⟩ = some (.int .u8 a0_1) := (blk_cell BK101.out 1).trans rfl
            have hcz30_2 : wc.cell? ⟨gb101, 2, none⟩ = some (.int .u8 a0_2) := (blk_cell BK101.out 2).trans rfl
            have hcz30_3 : wc.cell? ⟨gb101, 3, none⟩ = some (.int .u16 a0_3) := (blk_cell BK101.out 3).trans rfl
            have hcz30_4 : wc.cell? ⟨gb101, 4, none⟩ = some (.int .u16 a0_4) := (blk_cell BK101.out 4).trans rfl
            have hcz30_5 : wc.cell? ⟨gb101, 5, none⟩ = some (.int .u16 a0_5) := (blk_cell BK101.out 5).trans rfl
            have hcz30_6 : wc.cell? ⟨gb101, 6, none⟩ = some (.int .u8 a0_6) := (blk_cell BK101.out 6).trans rfl
            have hcz30_7 : wc.cell? ⟨gb101, 7, none⟩ = some (.int .u16 a0_7) := (blk_cell BK101.out 7).trans rfl
            have hcz30_8 : wc.cell? ⟨gb101, 8, none⟩ = some (.int .u16 a0_8) := (blk_cell BK101.out 8).trans rfl
            have hcz30_9 : wc.cell? ⟨gb101, 9, none⟩ = some (.int .u16 a0_9) := (blk_cell BK101.out 9).trans rfl
            have hcz30_10 : wc.cell? ⟨gb101, 10, none⟩ = some (.int .u8 a0_10) := (blk_cell BK101.out 10).trans rfl
            have hcz30_11 : wc.cell? ⟨gb101, 11, none⟩ = some (.int .u16 a0_11) := (blk_cell BK101.out 11).trans rfl
            have hcz30_12 : wc.cell? ⟨gb101, 12, none⟩ = some (.bool a0_12) := (blk_cell BK101.out 12).trans rfl
            have hcz30_13 : wc.cell? ⟨gb101, 13, none⟩ = some (.int .u8 a0_13) := (blk_cell BK101.out 13).trans rfl
            have hcz30_14 : wc.cell? ⟨gb101, 14, none⟩ = some (.int .u16 a0_14) := (blk_cell BK101.out 14).trans rfl
            have hcz30_15 : wc.cell? ⟨gb101, 15, none⟩ = some (.int .u32 a0_15) := (blk_cell BK101.out 15).trans rfl
            have hcz30_16 : wc.cell? ⟨gb101, 16, none⟩ = some (.int .u8 a0_16) := (blk_cell BK101.out 16).trans rfl
            have hcz30_17 : wc.cell? ⟨gb101, 17, none⟩ = some (.int .u8 a0_17) := (blk_cell BK101.out 17).trans rfl
            have hcz30_18 : wc.cell? ⟨gb101, 18, none⟩ = some (.string a0_18) := (blk_cell BK101.out 18).trans rfl
            have hfz30_0 := blk_frozen BK101.out 0
            have hfz30_1 := blk_frozen BK101.out 1
            have hfz30_2 := blk_frozen BK101.out 2
            have hfz30_3 := blk_frozen BK101.out 3
            have hfz30_4 := blk_frozen BK101.out 4
            have hfz30_5 := blk_frozen BK101.out 5
            have hfz30_6 := blk_frozen BK101.out 6
            have hfz30_7 := blk_frozen BK101.out 7
            have hfz30_8 := blk_frozen BK101.out 8
            have hfz30_9 := blk_frozen BK101.out 9
            have hfz30_10 := blk_frozen BK101.out 10
            have hfz30_11 := blk_frozen BK101.out 11
            have hfz30_12 := blk_frozen BK101.out 12
            have hfz30_13 := blk_frozen BK101.out 13
            have hfz30_14 := blk_frozen BK101.out 14
            have hfz30_15 := blk_frozen BK101.out 15
            have hfz30_16 := blk_frozen BK101.out 16
            have hfz30_17 := blk_frozen BK101.out 17
            have hfz30_18 := blk_frozen BK101.out 18
            go_wp2
            go_ret
            exact ⟨by first | rfl | (simp [errW_none, errW_some] <;> rfl) | (simp [*, errW_none, errW_some] <;> rfl), by repeat (first | (with_reducible first | exact HB.out | apply below_alloc | apply pw_below_drewN | apply below_drew1 | refine below_set ?_ GE101.out) | exact HB.out)⟩

end Go.Proofs.YtkcaifpmceoflaaDoor.Own

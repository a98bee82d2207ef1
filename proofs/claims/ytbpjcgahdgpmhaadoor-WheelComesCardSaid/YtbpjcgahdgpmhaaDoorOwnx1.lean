/- Contracts of functions of the given program, each under the conditions that it states (a run of the kit's printer, by hprint.py, with contracts of our own among its functions). -/
import Derived.Test.YtbpjcgahdgpmhaaDoorOwnx0
namespace Go.Proofs.YtbpjcgahdgpmhaaDoor.Own
open Go.RowKit Go.Proofs.YtbpjcgahdgpmhaaDoorW.PrintWords Go.Proofs.YtbpjcgahdgpmhaaDoorW.PrintLast Go.Proofs.YtbpjcgahdgpmhaaDoorW.PrintMore
attribute [local go_sem] max2_int min2_int max_two min_two max_three min_three max_four min_four   -- for this text's walks alone
set_option linter.unusedVariables false
set_option linter.unusedSimpArgs false

-- NOT PRINTED: function 7 (wheel_New)

-- NOT PRINTED: function 19 (wheel_Wheel_is)

-- NOT PRINTED: function 9 (wheel_Wheel_Cancel)

-- NOT PRINTED: function 8 (wheel_Wheel_Set)

-- NOT PRINTED: function 20 (bits_TrailingZeros16)

-- NOT PRINTED: function 11 (wheel_Wheel_Tick)

/-! ### bits_OnesCount16: function 23 (by hand: two reads of a constant of 256 bytes) -/
def ones2 (x : Nat) : Nat := Lib.onesCount (x / 256) + Lib.onesCount (x % 256)
def bits_OnesCount16.f (a0 : Int) : Option Int := if 0 ≤ a0 ∧ a0 < 65536 then some (ones2 a0.toNat : Int) else none
theorem and255 (x : Int) (h0 : 0 ≤ x) (h1 : x < 65536) : Go.bits .and .u16 x 255 = x % 256 :=
  bits_mask .u16 16 (by decide) (fun n h0 h1 => by rw [IntKind.wrap_u16]; omega) 8 (by decide) x h0 h1
theorem ones_le : ∀ n : Fin 256, Lib.onesCount n.val ≤ 8 := by decide +kernel
theorem pop8_ones (b : Int) (h0 : 0 ≤ b) (h1 : b ≤ 255) : Lib.pop8 b = (Lib.onesCount b.toNat : Int) := by
  have h := Lib.pop8_eq ⟨b.toNat, by omega⟩
  simp only at h
  rw [← h]
  congr 1
  omega
theorem h_ret_int {k : IntKind} {a b : Int} (h : a = b) : Ending.returned (.int k a) = .returned (.int k b) := by rw [h]
set_option maxHeartbeats 1000000 in
theorem bits_OnesCount16.calls (a0 : Int) (r : Int) (w : World) (h : bits_OnesCount16.f a0 = some r) :
    Calls Tryd.prog 23 #[.int .u16 a0] w fun e w' => e = .returned (.int .i64 r) ∧ Drawn0 w w' := by
  unfold bits_OnesCount16.f at h
  split at h
  rotate_left
  · cases h
  rename_i hc
  obtain rfl := Option.some.inj h
  clear h
  obtain ⟨x, rfl⟩ := Int.eq_ofNat_of_zero_le hc.1
  have hx : x < 65536 := by omega
  rw [Int.toNat_natCast]
  have e3 := and255 x (by omega) (by omega)
  have b2 : (x : Int) / 256 ≤ 255 := by omega
  have b4 : (x : Int) % 256 ≤ 255 := by omega
  have c2 : 0 ≤ (x : Int) / 256 := by omega
  have c4 : 0 ≤ (x : Int) % 256 := by omega
  have key : (Lib.pop8 ((x : Int) / 256) + Lib.pop8 ((x : Int) % 256)) % 256 = (ones2 x : Int) := by
    have l3 := ones_le ⟨x / 256, by omega⟩
    have l4 := ones_le ⟨x % 256, by omega⟩
    simp only at l3 l4
    rw [pop8_ones _ c2 b2, pop8_ones _ c4 b4]
    unfold ones2
    rw [show ((x : Int) / 256).toNat = x / 256 by omega, show ((x : Int) % 256).toNat = x % 256 by omega]
    omega
  have KEY := Aside0.mk key
  clear key hc
  have t9 := Tryd.underlying9
  have u9 := run_underlying t9
  go_enter Tryd.func23, Tryd.ntmps23
  go_wp2_with fail
  go_quiet (fail)
  go_wp2
  go_ret
  exact ⟨h_ret_int KEY.out, by repeat (first | exact Drawn0.refl _ | apply Drawn0.step | exact Drawn0.drewN _ _ | exact ⟨_, rfl⟩)⟩


-- NOT PRINTED: function 18 (wheel_Wheel_Len)

-- NOT PRINTED: function 6 (fuglemanlaw08_awake)

-- NOT PRINTED: function 10 (wheel_Wheel_Left)

-- NOT PRINTED: function 3 (fuglemanlaw08_WheelComes)

-- NOT PRINTED: function 12 (fuglemanref08_Wheel_Set)

-- NOT PRINTED: function 13 (fuglemanref08_Wheel_Left)

/-! ### fuglemanlaw08_same: function 14 -/
def fuglemanlaw08_same.l0 : Nat → List Int → List Int → Int → Int → Option (Bool)
  | 0, _, _, _, _ => none
  | k + 1, x0, x1, x12, x13 => if x13 < x12 then (if 0 ≤ x13 then (if x13 < (x0.length : Int) then (if x13 < (x1.length : Int) then (if (rd x0 x13) = (rd x1 x13) then (fuglemanlaw08_same.l0 k x0 x1 x12 (wrap64 (x13 + 1))) else (some false)) else (none)) else (none)) else (none)) else (some true)
def fuglemanlaw08_same.f (k : Nat) (l0 : List Int) (l1 : List Int) : Option (Bool) := if (l0.length : Int) = (l1.length : Int) then (fuglemanlaw08_same.l0 k l0 l1 (l0.length : Int) 0) else (some false)
theorem fuglemanlaw08_same.mono_l : ∀ k, (∀ y0 y1 y2 y3, LeO (fuglemanlaw08_same.l0 k y0 y1 y2 y3) (fuglemanlaw08_same.l0 (k + 1) y0 y1 y2 y3))
  | 0 => fun _ _ _ _ r h => by simp [fuglemanlaw08_same.l0] at h
  | k + 1 => by
    have ih0 := fuglemanlaw08_same.mono_l k
    · intro y0 y1 y2 y3
      unfold fuglemanlaw08_same.l0
      repeat' first
      | (with_reducible exact ih0 _ _ _ _)
      | (with_reducible exact LeO.refl _)
      | (with_reducible exact LeO.none _)
      | (with_reducible refine LeO.ite ?_ ?_)
      | (with_reducible refine LeO.bind ?_ (fun _ => ?_))
      | exact ih0 _ _ _ _
      | exact LeO.none _
      | refine LeO.ite ?_ ?_
      | refine LeO.bind ?_ (fun _ => ?_)
theorem fuglemanlaw08_same.mono : ∀ a0 a1 k, LeO (fuglemanlaw08_same.f k a0 a1) (fuglemanlaw08_same.f (k + 1) a0 a1) := by
  intro a0 a1 k
  have ih0 := fuglemanlaw08_same.mono_l k
  unfold fuglemanlaw08_same.f
  repeat' first
      | (with_reducible exact ih0 _ _ _ _)
      | (with_reducible exact LeO.refl _)
      | (with_reducible exact LeO.none _)
      | (with_reducible refine LeO.ite ?_ ?_)
      | (with_reducible refine LeO.bind ?_ (fun _ => ?_))
      | exact ih0 _ _ _ _
      | exact LeO.none _
      | refine LeO.ite ?_ ?_
      | refine LeO.bind ?_ (fun _ => ?_)
set_option maxHeartbeats 8000000 in
set_option maxRecDepth 100000 in
theorem fuglemanlaw08_same.calls (k : Nat) (A0 : Option Addr) (c0 : Nat) (l0 : List Int) (A1 : Option Addr) (c1 : Nat) (l1 : List Int) (r : Bool) (w : World) (hr0 : Kd.C (Kd.int .i64) w A0 l0.length l0) (hc0 : l0.length ≤ c0) (hr1 : Kd.C (Kd.int .i64) w A1 l1.length l1) (hc1 : l1.length ≤ c1) (h : fuglemanlaw08_same.f k l0 l1 = some r) :
    Calls Tryd.prog 14 #[.slice A0 l0.length c0, .slice A1 l1.length c1] w fun e w' => e = .returned (.bool r) ∧ Drawn0 w w' := by
  have HR0 := Aside0.mk hr0
  have HC0 := Aside0.mk hc0
  clear hr0 hc0
  have HR1 := Aside0.mk hr1
  have HC1 := Aside0.mk hc1
  clear hr1 hc1
  have H : (if (l0.length : Int) = (l1.length : Int) then (fuglemanlaw08_same.l0 k l0 l1 (l0.length : Int) 0) else (some false)) = some r := h
  clear h
  by_cases c3 : (l0.length : Int) = (l1.length : Int)
  · rw [if_pos c3] at H
    have c3b0 : ((l0.length : Int) == (l1.length : Int)) = true := beq_iff_eq.mpr c3
    have c3b1 : ((l0.length : Int) != (l1.length : Int)) = false := bne_eq_false_iff_eq.mpr c3
    have c3b2 : (l0.length == l1.length) = true := by first | simpa using c3 | (simp at c3 ⊢; omega)
    clear c3
    have H' := Aside0.mk H
    clear H
    go_enter Tryd.func14, Tryd.ntmps14
    go_wp2
    repeat (go_quiet (fail); try go_wp2)
    go_loopg [13] k (fun kq v13 w' => ∃ (x13_1 : Int), v13 = .int .i64 x13_1 ∧ Aside0 (fuglemanlaw08_same.l0 kq l0 l1 (l0.length : Int) x13_1 = some r) ∧ Aside0 (kq ≤ k) ∧ Drawn0 w w')
    case atStart => exact ⟨(0), (by first | rfl | (simp; done) | (simp [*]; done)), H', ⟨Nat.le_refl _⟩, by repeat (first | exact Drawn0.refl _ | apply Drawn0.step)⟩
    case round =>
      clear H'
      try clear c1
      try clear p2
      try clear c3
      try clear c3b0
      try clear c3b1
      try clear c3b2
      obtain ⟨x13_1, rfl, HA, HK1, ⟨m1, rfl⟩⟩ := hrel
      cases gk with
      | zero => exact absurd HA.out (by simp [fuglemanlaw08_same.l0])
      | succ k1 =>
        have H := HA.out
        clear HA
        simp only [fuglemanlaw08_same.l0] at H
        by_cases c4 : x13_1 < (l0.length : Int)
        · rw [if_pos c4] at H
          have c4b0 : decide (x13_1 < (l0.length : Int)) = true := decide_eq_true c4
          clear c4
          by_cases c5 : 0 ≤ x13_1
          · rw [if_pos c5] at H
            have c5b0 : decide (0 ≤ x13_1) = true := decide_eq_true c5
            clear c5
            by_cases c6 : x13_1 < (l0.length : Int)
            · rw [if_pos c6] at H
              have c6b0 : decide (x13_1 < (l0.length : Int)) = true := decide_eq_true c6
              clear c6
              by_cases c7 : x13_1 < (l1.length : Int)
              · rw [if_pos c7] at H
                have c7b0 : decide (x13_1 < (l1.length : Int)) = true := decide_eq_true c7
                clear c7
                by_cases c8 : (rd l0 x13_1) = (rd l1 x13_1)
                · rw [if_pos c8] at H
                  have c8b0 : ((rd l0 x13_1) == (rd l1 x13_1)) = true := beq_iff_eq.mpr c8
                  have c8b1 : ((rd l0 x13_1) != (rd l1 x13_1)) = false := bne_eq_false_iff_eq.mpr c8
                  clear c8
                  have H' := Aside0.mk H
                  clear H
                  have p101 : 0 ≤ (x13_1 : Int) := of_decide_eq_true (by first | (with_reducible assumption) | assumption)
                  have q101 : x13_1 < (l0.length : Int) := of_decide_eq_true (by first | (with_reducible assumption) | assumption)
                  obtain ⟨ad101, e101, hx101_0⟩ := Kd.at_int HR0.out x13_1 p101 q101
                  cases e101
                  replace p101 := eq_true p101
                  replace q101 := eq_true q101
                  have p102 : 0 ≤ (x13_1 : Int) := of_decide_eq_true (by first | (with_reducible assumption) | assumption)
                  have q102 : x13_1 < (l1.length : Int) := of_decide_eq_true (by first | (with_reducible assumption) | assumption)
                  obtain ⟨ad102, e102, hx102_0⟩ := Kd.at_int HR1.out x13_1 p102 q102
                  cases e102
                  replace p102 := eq_true p102
                  replace q102 := eq_true q102
                  go_wp2
                  repeat (go_quiet (fail); try go_wp2)
                  go_roundg k1
                  case measure => have := HK1.out; omega
                  case rel => exact ⟨(wrap64 (x13_1 + 1)), (by first | rfl | (simp; done) | (simp [*]; done)), H', ⟨by have := HK1.out; omega⟩, by repeat (first | exact Drawn0.refl _ | apply Drawn0.step)⟩
                · rw [if_neg c8] at H
                  have c8b0 : ((rd l0 x13_1) == (rd l1 x13_1)) = false := beq_eq_false_iff_ne.mpr c8
                  have c8b1 : ((rd l0 x13_1) != (rd l1 x13_1)) = true := bne_iff_ne.mpr c8
                  obtain rfl := Option.some.inj H
                  have p101 : 0 ≤ (x13_1 : Int) := of_decide_eq_true (by first | (with_reducible assumption) | assumption)
                  have q101 : x13_1 < (l0.length : Int) := of_decide_eq_true (by first | (with_reducible assumption) | assumption)
                  obtain ⟨ad101, e101, hx101_0⟩ := Kd.at_int HR0.out x13_1 p101 q101
                  cases e101
                  replace p101 := eq_true p101
                  replace q101 := eq_true q101
                  have p102 : 0 ≤ (x13_1 : Int) := of_decide_eq_true (by first | (with_reducible assumption) | assumption)
                  have q102 : x13_1 < (l1.length : Int) := of_decide_eq_true (by first | (with_reducible assumption) | assumption)
                  obtain ⟨ad102, e102, hx102_0⟩ := Kd.at_int HR1.out x13_1 p102 q102
                  cases e102
                  replace p102 := eq_true p102
                  replace q102 := eq_true q102
                  go_wp2
                  repeat (go_quiet (fail); try go_wp2)
                  go_ret
                  exact ⟨by first | rfl | (simp; done) | (simp [*]; done), by repeat (first | exact Drawn0.refl _ | apply Drawn0.step)⟩
              · rw [if_neg c7] at H
                exact absurd H (by simp)
            · rw [if_neg c6] at H
              exact absurd H (by simp)
          · rw [if_neg c5] at H
            exact absurd H (by simp)
        · rw [if_neg c4] at H
          have c4b0 : decide (x13_1 < (l0.length : Int)) = false := decide_eq_false c4
          clear c4
          obtain rfl := Option.some.inj H
          go_wp2
          repeat (go_quiet (fail); try go_wp2)
          go_ret
          exact ⟨by first | rfl | (simp; done) | (simp [*]; done), by repeat (first | exact Drawn0.refl _ | apply Drawn0.step)⟩
  · rw [if_neg c3] at H
    have c3b0 : ((l0.length : Int) == (l1.length : Int)) = false := beq_eq_false_iff_ne.mpr c3
    have c3b1 : ((l0.length : Int) != (l1.length : Int)) = true := bne_iff_ne.mpr c3
    have c3b2 : (l0.length == l1.length) = false := by first | simpa using c3 | (simp at c3 ⊢; omega)
    obtain rfl := Option.some.inj H
    go_enter Tryd.func14, Tryd.ntmps14
    go_wp2
    repeat (go_quiet (fail); try go_wp2)
    go_ret
    exact ⟨by first | rfl | (simp; done) | (simp [*]; done), by repeat (first | exact Drawn0.refl _ | apply Drawn0.step)⟩

-- NOT PRINTED: function 15 (fuglemanref08_Wheel_Tick)

-- NOT PRINTED: function 21 (wheel_Wheel_Soonest)

-- NOT PRINTED: function 16 (wheel_Wheel_Skip)

-- NOT PRINTED: function 22 (fuglemanref08_Wheel_Soonest)

-- NOT PRINTED: function 17 (fuglemanlaw08_alike)

-- NOT PRINTED: function 4 (fuglemanlaw08_WheelRuns)

-- NOT PRINTED: function 5 (fuglemanlaw08_WheelSkips)

end Go.Proofs.YtbpjcgahdgpmhaaDoor.Own

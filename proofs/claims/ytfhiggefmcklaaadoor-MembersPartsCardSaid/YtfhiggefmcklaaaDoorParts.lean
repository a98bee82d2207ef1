/- The law's function MembersParts answers true: between two addresses, and back, and these two, is everybody, each once. Its argument of two bytes is given whole. Conditions: the bytes are bytes, the set has 32 bits, the table of math/bits reads as laid. -/
import Derived.Test.YtfhiggefmcklaaaDoorPlain5
namespace Go.Proofs.YtfhiggefmcklaaaDoor.Plain
open Go.RowKit Go.Proofs.YtfhiggefmcklaaaDoor.Own Go.Proofs.YtfhiggefmcklaaaDoorW.PrintWords Go.Proofs.YtfhiggefmcklaaaDoorW.PrintLast Go.Proofs.YtfhiggefmcklaaaDoorW.PrintMore

def ends (a b : Nat) : Nat := wth (wth 0 a) b
def psv (s a b : Nat) : Nat := (ann s (btw a b) ||| on a) ||| on b
theorem ends_lt (a b : Nat) : ends a b < 2 ^ 32 := wth_lt _ (wth_lt _ (by decide))
theorem ends_bit (a b j : Nat) (hj : j < 32) : (ends a b).testBit j = decide (j = a ∨ j = b) := by
  unfold ends
  rw [wth_bit _ _ _ hj, wth_bit _ _ _ hj, Nat.zero_testBit, Bool.false_or, ← Bool.decide_or]
  congr 1
  simp only [eq_iff_iff]
  omega
theorem psv_lt (s a b : Nat) : psv s a b < 2 ^ 32 := Nat.or_lt_two_pow (Nat.or_lt_two_pow (ann_lt _ _) (on_lt _)) (on_lt _)
theorem psv_bit (s a b j : Nat) (hj : j < 32) : (psv s a b).testBit j = (s.testBit j && !(btw a b).testBit j || decide (j = a ∨ j = b)) := by
  unfold psv
  rw [Nat.testBit_or, Nat.testBit_or, on_bit, on_bit, ann_bit _ _ _ hj, Bool.or_assoc, ← Bool.decide_or]
  congr 2
  simp only [eq_iff_iff]
  omega
theorem pass_in (s a b : Nat) (ha : a < 32) (hb : b < 32) : Ev (fun k => members_Pass.f k s a b) (psv s a b : Int) := by
  have hbl := btw_lt a b ha hb
  have hor : ann s (btw a b) ||| on a < 2 ^ 32 := Nat.or_lt_two_pow (ann_lt _ _) (on_lt _)
  refine Ev.congr (f := fun k => members_Pass.j0 k s a b false) (fun k => ?_) (Ev.step (f := fun _ => some _) (fun k => ?_) (Ev.now _))
  · unfold members_Pass.f
    rw [is_f, is_f]
    simp only [Option.bind_some]
    rw [if_pos (decide_eq_true (by omega)), decide_eq_true (by omega)]
    rfl
  · simp only [members_Pass.j0]
    rw [if_neg (by decide), between_f a b ha hb, one_f, one_f]
    simp only [Option.bind_some]
    rw [ann_f, or_f _ _ (ann_lt _ _) (on_lt _), or_f _ _ hor (on_lt _)]
    rfl
theorem dist_32 (a j : Nat) (ha : a < 32) (hj : j < 32) : dist a j ≤ 32 ∧ (dist a j = 32 ↔ j = a) := by unfold dist; split <;> omega
/-- Equal ends. -/
theorem parts_same (s a : Nat) (ha : a < 32) : (2 ^ 32 - 1) ^^^ ends a a = btw a a ∧ psv s a a = ends a a := by
  refine ⟨ext32 (Nat.xor_lt_two_pow (by decide) (ends_lt _ _)) (btw_lt _ _ ha ha) fun j hj => ?_, ext32 (psv_lt _ _ _) (ends_lt _ _) fun j hj => ?_⟩
  · rw [Nat.testBit_xor, Nat.testBit_two_pow_sub_one, decide_eq_true hj, ends_bit _ _ _ hj, btw_bit _ _ _ ha ha hj, Bool.true_xor, ← decide_not]
    congr 1
    have := dist_32 a j ha hj
    have := dist_32 a a ha ha
    simp only [eq_iff_iff]
    omega
  · rw [psv_bit _ _ _ _ hj, btw_bit _ _ _ ha ha hj, ends_bit _ _ _ hj]
    by_cases h : j = a
    · rw [decide_eq_true (p := j = a ∨ j = a) (by omega), Bool.or_true]
    · have := dist_32 a j ha hj
      have := dist_32 a a ha ha
      rw [decide_eq_true (p := dist a j < dist a a) (by omega), decide_eq_false (p := j = a ∨ j = a) (by omega)]
      simp
theorem tri (a b j : Nat) (ha : a < 32) (hb : b < 32) (hj : j < 32) (hab : a ≠ b) : (btw a b).testBit j = decide (dist a j < dist a b) ∧ (btw b a).testBit j = decide (j ≠ a ∧ j ≠ b ∧ ¬ dist a j < dist a b) := by
  refine ⟨btw_bit _ _ _ ha hb hj, ?_⟩
  rw [btw_bit _ _ _ hb ha hj]
  congr 1
  simp only [eq_iff_iff]
  unfold dist
  split <;> split <;> split <;> split <;> omega
theorem near (a b j : Nat) (ha : a < 32) (hb : b < 32) (hj : j < 32) (_ : a ≠ b) (h : dist a j < dist a b) : j ≠ a ∧ j ≠ b := by
  unfold dist at h
  split at h <;> split at h <;> omega
/-- Unequal ends. -/
theorem parts_apart (s a b : Nat) (ha : a < 32) (hb : b < 32) (hab : a ≠ b) :
    btw a b &&& btw b a = 0 ∧ btw a b &&& ends a b = 0 ∧ btw b a &&& ends a b = 0 ∧ (btw a b ||| btw b a) ||| ends a b = 2 ^ 32 - 1 ∧ psv s a b &&& btw b a = s &&& btw b a ∧ psv s a b &&& ends a b = ends a b := by
  have h1 := btw_lt a b ha hb
  have h2 := btw_lt b a hb ha
  have h3 := ends_lt a b
  have h4 := psv_lt s a b
  have lt : ∀ {x y : Nat}, x < 2 ^ 32 → x &&& y < 2 ^ 32 := fun h => Nat.lt_of_le_of_lt Nat.and_le_left h
  have lt' : ∀ {x y : Nat}, y < 2 ^ 32 → x &&& y < 2 ^ 32 := fun h => Nat.lt_of_le_of_lt Nat.and_le_right h
  refine ⟨ext32 (lt h1) (by decide) fun j hj => ?_, ext32 (lt h1) (by decide) fun j hj => ?_, ext32 (lt h2) (by decide) fun j hj => ?_, ext32 (Nat.or_lt_two_pow (Nat.or_lt_two_pow h1 h2) h3) (by decide) fun j hj => ?_, ext32 (lt h4) (lt' h2) fun j hj => ?_, ext32 (lt h4) h3 fun j hj => ?_⟩
  all_goals obtain ⟨e1, e2⟩ := tri a b j ha hb hj hab
  all_goals have e3 := ends_bit a b j hj
  all_goals have e4 := near a b j ha hb hj hab
  · rw [Nat.testBit_and, e1, e2, ← Bool.decide_and, Nat.zero_testBit]
    exact decide_eq_false (by omega)
  · rw [Nat.testBit_and, e1, e3, ← Bool.decide_and, Nat.zero_testBit]
    exact decide_eq_false (by omega)
  · rw [Nat.testBit_and, e2, e3, ← Bool.decide_and, Nat.zero_testBit]
    exact decide_eq_false (by omega)
  · rw [Nat.testBit_or, Nat.testBit_or, e1, e2, e3, ← Bool.decide_or, ← Bool.decide_or, Nat.testBit_two_pow_sub_one]
    rw [decide_eq_true hj]
    exact decide_eq_true (by omega)
  · rw [Nat.testBit_and, Nat.testBit_and, psv_bit _ _ _ _ hj, e1, e2]
    by_cases h : dist a j < dist a b
    · rw [decide_eq_false (p := j ≠ a ∧ j ≠ b ∧ ¬ dist a j < dist a b) (by omega), Bool.and_false, Bool.and_false]
    · rw [decide_eq_false h]
      by_cases hh : j = a ∨ j = b
      · rw [decide_eq_false (p := j ≠ a ∧ j ≠ b ∧ ¬ dist a j < dist a b) (by omega), Bool.and_false, Bool.and_false]
      · rw [decide_eq_false hh]; simp
  · rw [Nat.testBit_and, psv_bit _ _ _ _ hj, e3]
    by_cases hh : j = a ∨ j = b
    · rw [decide_eq_true hh]; simp
    · rw [decide_eq_false hh]; simp
theorem parts_next (s a b : Nat) (ha : a < 32) (hb : b < 32) (hab : a ≠ b) : members_Next.f (psv s a b : Nat) a = some ((b : Int), true) := by
  have hwb : (wo (psv s a b) a).testBit b = true := by
    rw [wo_bit _ _ _ hb, psv_bit _ _ _ _ hb, decide_eq_true (p := b = a ∨ b = b) (by omega), decide_eq_false (by omega)]; simp
  rw [next_f]
  rcases turn_f (wo (psv s a b) a) a (wo_lt _ _) ha with ⟨h0, _⟩ | ⟨i, ⟨g1, g2, g3, g4⟩, e⟩
  · rw [nbit _ _ h0] at hwb; cases hwb
  · rw [e]
    congr 3
    have hj : (a + i) % 32 < 32 := by omega
    rw [wo_bit _ _ _ hj, Bool.and_eq_true, psv_bit _ _ _ _ hj, btw_bit _ _ _ ha hb hj] at g3
    have h3 : ¬ (a : Int) = ((a + i) % 32 : Nat) := by simpa using g3.2
    have hd : dist a ((a + i) % 32) = i := by unfold dist; split <;> omega
    have hdc : (a + dist a b) % 32 = b ∧ 1 ≤ dist a b := by unfold dist; split <;> omega
    rw [hd] at g3
    rcases Nat.lt_trichotomy (dist a b) i with h | h | h
    · have := g4 (dist a b) hdc.2 h
      rw [hdc.1, hwb] at this
      cases this
    · rw [← h]; exact hdc.1
    · have h5 := g3.1
      rw [decide_eq_true h] at h5
      simp at h5
      omega
theorem rem_u8 (x : Int) (h0 : 0 ≤ x) (_ : x ≤ 255) : wrap64 (Int.tmod x 32) = (((x % 32).toNat : Nat) : Int) ∧ (x % 32).toNat < 32 := by
  rw [Int.tmod_eq_emod_of_nonneg h0, w64 (by omega) (by omega)]
  omega
end Go.Proofs.YtfhiggefmcklaaaDoor.Plain

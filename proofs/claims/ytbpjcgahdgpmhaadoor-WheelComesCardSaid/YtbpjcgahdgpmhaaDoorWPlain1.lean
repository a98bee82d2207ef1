/- Plain facts on the wheel: what is left of each timer, and that a tick of the wheel is a tick of the document's. No condition but those that each states. -/
import Derived.Test.YtbpjcgahdgpmhaaDoorWheel6
namespace Go.Proofs.YtbpjcgahdgpmhaaDoor.Whl
open Go.RowKit Go.Proofs.YtbpjcgahdgpmhaaDoorW.PrintWords Go.Proofs.YtbpjcgahdgpmhaaDoorW.PrintLast Go.Proofs.YtbpjcgahdgpmhaaDoorW.PrintMore

theorem ctz_low (l : Nat) (h0 : l ≠ 0) (h : l < 65536) : Lib.ctz 16 l < 16 ∧ l.testBit (Lib.ctz 16 l) = true ∧ (∀ j, j < Lib.ctz 16 l → l.testBit j = false) ∧ ∀ j, (l &&& (l - 1)).testBit j = (l.testBit j && !decide (j = Lib.ctz 16 l)) := by
  unfold Lib.ctz
  rw [if_neg h0]
  obtain ⟨m, h1, h2⟩ := Lib.ctzFrom_spec 16 l (by omega) h
  generalize Lib.ctzFrom 16 l = c at *
  subst h1
  have hlow : ∀ j, j < c → (2 ^ c * (2 * m + 1)).testBit j = false := fun j hj => by rw [Nat.testBit_two_pow_mul]; simp; omega
  refine ⟨h2, by rw [Nat.testBit_two_pow_mul]; simp, hlow, fun j => ?_⟩
  have hp : 0 < 2 ^ c := Nat.two_pow_pos c
  have e : 2 ^ c * (2 * m + 1) - 1 = 2 ^ c * (2 * m) + (2 ^ c - 1) := by rw [Nat.mul_add, Nat.mul_one]; omega
  rw [Nat.testBit_and]
  rcases Nat.lt_trichotomy j c with hj | hj | hj
  · rw [hlow j hj]; simp
  · subst hj
    rw [e, Nat.testBit_two_pow_mul_add _ (by omega), if_neg (Nat.lt_irrefl _)]
    simp
  · rw [e, Nat.testBit_two_pow_mul_add _ (by omega), if_neg (by omega), Nat.testBit_two_pow_mul, decide_eq_false (show ¬ j = c by omega)]
    have hjc : c ≤ j := by omega
    obtain ⟨i, hi⟩ : ∃ i, j - c = i + 1 := ⟨j - c - 1, by omega⟩
    rw [hi, Nat.testBit_succ, Nat.testBit_succ, show (2 * m + 1) / 2 = m by omega, show 2 * m / 2 = m by omega]
    simp [hjc]
theorem ext16 {x y : Nat} (hx : x < 65536) (hy : y < 65536) (h : ∀ j, j < 16 → x.testBit j = y.testBit j) : x = y :=
  Nat.eq_of_testBit_eq fun j => by
    by_cases hj : j < 16
    · exact h j hj
    · rw [Nat.testBit_lt_two_pow (Nat.lt_of_lt_of_le (show x < 2 ^ 16 from hx) (Nat.pow_le_pow_right (by decide) (by omega))), Nat.testBit_lt_two_pow (Nat.lt_of_lt_of_le (show y < 2 ^ 16 from hy) (Nat.pow_le_pow_right (by decide) (by omega)))]
theorem ann_bit (a b j : Nat) (hj : j < 16) : (ann a b).testBit j = (a.testBit j && !b.testBit j) := by
  unfold ann
  rw [BitVec.testBit_toNat, BitVec.getLsbD_and, BitVec.getLsbD_not, BitVec.getLsbD_ofNat, BitVec.getLsbD_ofNat]
  simp only [hj, decide_true, Bool.true_and]
theorem ann_pow (a n j : Nat) (hj : j < 16) : (ann a (2 ^ n)).testBit j = (a.testBit j && !decide (j = n)) := by
  rw [ann_bit _ _ _ hj, Nat.testBit_two_pow]
  congr 2
  simp only [decide_eq_decide]
  omega
theorem or_pow (a n j : Nat) : (a ||| 2 ^ n).testBit j = (a.testBit j || decide (j = n)) := by
  rw [Nat.testBit_or, Nat.testBit_two_pow]
  congr 1
  simp only [decide_eq_decide]
  omega

def slot (s : Wh) (n : Nat) : Nat := (s.due n % 32).toNat
structure Inv (s : Wh) : Prop where
  good : Good s
  hang : ∀ n j, n < 16 → j < 32 → (s.spoke j).testBit n = (s.set.testBit n && decide (slot s n = j))
  soon : ∀ n, n < 16 → s.set.testBit n = true → s.now < s.due n ∧ s.due n ≤ s.now + 10000
theorem slot_lt (s : Wh) (n : Nat) : slot s n < 32 := by unfold slot; omega
theorem canc_bit (s : Wh) (n j : Nat) (hn : n < 16) (hj : j < 16) : (canc s n).set.testBit j = (s.set.testBit j && !decide (j = n)) := by
  unfold canc
  by_cases h : has s n = true
  · rw [if_pos h, Int.toNat_natCast]
    exact ann_pow _ _ _ hj
  · rw [if_neg h]
    have hb : s.set.testBit n = false := by
      unfold has at h
      rw [decide_eq_true (by omega), Int.toNat_natCast, Bool.true_and] at h
      simpa using h
    by_cases e : j = n
    · subst e; rw [hb]; rfl
    · rw [decide_eq_false e]; simp
theorem canc_due (s : Wh) (id : Int) : (canc s id).due = s.due := by unfold canc; split <;> rfl
theorem hang_canc {s : Wh} (h : ∀ n j, n < 16 → j < 32 → (s.spoke j).testBit n = (s.set.testBit n && decide (slot s n = j))) (n : Nat) (hn : n < 16) :
    ∀ m j, m < 16 → j < 32 → ((canc s n).spoke j).testBit m = ((canc s n).set.testBit m && decide (slot (canc s n) m = j)) := fun m j hm hj => by
  have hs : slot (canc s n) m = slot s m := by unfold slot; rw [canc_due]
  rw [canc_bit s n m hn hm, hs]
  unfold canc
  by_cases hh : has s n = true
  · rw [if_pos hh, Int.toNat_natCast]
    show (up s.spoke (slot s n) (ann (s.spoke (slot s n)) (2 ^ n)) j).testBit m = _
    unfold up
    by_cases e : j = slot s n
    · rw [if_pos e, ann_pow _ _ _ hm, ← e, h m j hm hj]
      cases s.set.testBit m <;> simp [Bool.and_comm]
    · rw [if_neg e, h m j hm hj]
      by_cases e2 : m = n
      · subst e2
        rw [decide_eq_false (show ¬ slot s m = j from fun x => e x.symm)]; simp
      · rw [decide_eq_false e2]; simp
  · rw [if_neg hh, h m j hm hj]
    have hb : s.set.testBit n = false := by
      unfold has at hh
      rw [decide_eq_true (by omega), Int.toNat_natCast, Bool.true_and] at hh
      simpa using hh
    by_cases e2 : m = n
    · subst e2; rw [hb]; rfl
    · rw [decide_eq_false e2]; simp
theorem canc_inv {s : Wh} (h : Inv s) (n : Nat) (hn : n < 16) : Inv (canc s n) :=
  ⟨canc_good h.good _, hang_canc h.hang n hn, fun m hm hb => by
    rw [canc_bit s n m hn hm, Bool.and_eq_true] at hb
    rw [canc_now, canc_due]
    exact h.soon m hm hb.1⟩
end Go.Proofs.YtbpjcgahdgpmhaaDoor.Whl

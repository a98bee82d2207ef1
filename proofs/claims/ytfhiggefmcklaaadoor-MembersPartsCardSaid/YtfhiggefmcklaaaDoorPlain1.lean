/- Plain facts on sets of addresses: the program's words and the reference's searches, bit by bit. No condition but those that each states. -/
import Derived.Test.YtfhiggefmcklaaaDoorOwnx6
import Derived.Lib.BitFns
namespace Go.Proofs.YtfhiggefmcklaaaDoor.Plain
open Go.RowKit Go.Proofs.YtfhiggefmcklaaaDoor.Own Go.Proofs.YtfhiggefmcklaaaDoorW.PrintWords Go.Proofs.YtfhiggefmcklaaaDoorW.PrintLast Go.Proofs.YtfhiggefmcklaaaDoorW.PrintMore

theorem w64 {x : Int} (h0 : -9223372036854775808 ≤ x) (h1 : x ≤ 9223372036854775807) : wrap64 x = x := by unfold wrap64; omega
theorem awake_ev : Ev fuglemanlaw05_awake.f true := Ev.of fuglemanlaw05_awake.mono (k := 40) (by decide +kernel)

/-- A set's bits are told below 32. -/
theorem ext32 {x y : Nat} (hx : x < 2 ^ 32) (hy : y < 2 ^ 32) (h : ∀ j, j < 32 → x.testBit j = y.testBit j) : x = y :=
  Nat.eq_of_testBit_eq fun j => by
    by_cases hj : j < 32
    · exact h j hj
    · rw [Nat.testBit_lt_two_pow (Nat.lt_of_lt_of_le hx (Nat.pow_le_pow_right (by decide) (by omega))), Nat.testBit_lt_two_pow (Nat.lt_of_lt_of_le hy (Nat.pow_le_pow_right (by decide) (by omega)))]
theorem bit_hi {x j : Nat} (hx : x < 2 ^ 32) (hj : 32 ≤ j) : x.testBit j = false := Nat.testBit_lt_two_pow (Nat.lt_of_lt_of_le hx (Nat.pow_le_pow_right (by decide) hj))

def on (a : Int) : Nat := if 0 ≤ a ∧ a < 32 then 2 ^ a.toNat else 0
theorem on_lt (a : Int) : on a < 2 ^ 32 := by
  unfold on
  split
  · exact Nat.pow_lt_pow_right (by decide) (by omega)
  · decide
theorem on_bit (a : Int) (j : Nat) : (on a).testBit j = decide (a = j ∧ j < 32) := by
  unfold on
  split
  · rw [Nat.testBit_two_pow]
    congr 1
    simp only [eq_iff_iff]
    omega
  · rw [Nat.zero_testBit]
    exact (decide_eq_false (by omega)).symm
theorem is_f (a : Int) : members_is.f a = some (decide (0 ≤ a ∧ a < 32)) := by
  unfold members_is.f
  by_cases h : a ≥ 0
  · rw [if_pos h]
    congr 1
    simp [h]
  · rw [if_neg h, decide_eq_false (by omega)]
theorem shl_one (a : Nat) (h : a < 32) : shl .u32 1 (a : Int) = ((2 ^ a : Nat) : Int) := by
  have h1 : 2 ^ a < 2 ^ 32 := Nat.pow_lt_pow_right (by decide) h
  have h3 : (2 : Int) ^ a = ((2 ^ a : Nat) : Int) := by simp
  unfold shl
  rw [IntKind.wrap_u32, Int.toNat_natCast, show min a IntKind.u32.bits = a from Nat.min_eq_left (by show a ≤ 32; omega), Int.one_mul, h3]
  generalize 2 ^ a = p at *
  omega
theorem one_f (a : Int) : members_one.f a = some (on a : Int) := by
  unfold members_one.f
  rw [is_f]
  simp only [Option.bind_some]
  by_cases h : 0 ≤ a ∧ a < 32
  · obtain ⟨n, rfl⟩ := Int.eq_ofNat_of_zero_le h.1
    rw [if_pos (decide_eq_true h), if_pos h.1, shl_one n (by omega)]
    unfold on
    rw [if_pos h, Int.toNat_natCast]
  · rw [if_neg (by simpa using h)]
    unfold on
    rw [if_neg h]
    rfl
theorem below_f (a : Nat) (h : a < 32) : members_below.f (a : Int) = some ((2 ^ a - 1 : Nat) : Int) := by
  have h1 : 2 ^ a < 2 ^ 32 := Nat.pow_lt_pow_right (by decide) h
  have h2 : 0 < 2 ^ a := Nat.two_pow_pos a
  unfold members_below.f
  rw [if_pos (by omega), shl_one a h]
  congr 1
  omega

def ann (a b : Nat) : Nat := (BitVec.ofNat 32 a &&& ~~~ BitVec.ofNat 32 b).toNat
theorem ann_lt (a b : Nat) : ann a b < 2 ^ 32 := BitVec.isLt _
theorem ann_bit (a b j : Nat) (hj : j < 32) : (ann a b).testBit j = (a.testBit j && !b.testBit j) := by
  unfold ann
  rw [BitVec.testBit_toNat, BitVec.getLsbD_and, BitVec.getLsbD_not, BitVec.getLsbD_ofNat, BitVec.getLsbD_ofNat]
  simp only [hj, decide_true, Bool.true_and]
theorem ann_f (a b : Nat) : Go.bits .andNot .u32 (a : Int) (b : Int) = (ann a b : Int) := by
  show IntKind.u32.wrap ((BitVec.ofInt 32 (a : Int) &&& ~~~ BitVec.ofInt 32 (b : Int)).toNat : Int) = _
  rw [BitVec.ofInt_natCast, BitVec.ofInt_natCast, IntKind.wrap_u32]
  have := ann_lt a b
  unfold ann at *
  omega
theorem or_f (a b : Nat) (ha : a < 2 ^ 32) (hb : b < 2 ^ 32) : Go.bits .or .u32 (a : Int) (b : Int) = ((a ||| b : Nat) : Int) := (u32_bits a b ha hb).2
theorem and_f (a b : Nat) (ha : a < 2 ^ 32) (hb : b < 2 ^ 32) : Go.bits .and .u32 (a : Int) (b : Int) = ((a &&& b : Nat) : Int) := (u32_bits a b ha hb).1

/-- With, without: as words. -/
def wth (s : Nat) (a : Int) : Nat := s ||| on a
def wo (s : Nat) (a : Int) : Nat := ann s (on a)
theorem wth_lt {s : Nat} (a : Int) (h : s < 2 ^ 32) : wth s a < 2 ^ 32 := Nat.or_lt_two_pow h (on_lt a)
theorem wo_lt (s : Nat) (a : Int) : wo s a < 2 ^ 32 := ann_lt _ _
theorem wth_bit (s : Nat) (a : Int) (j : Nat) (hj : j < 32) : (wth s a).testBit j = (s.testBit j || decide (a = j)) := by
  unfold wth
  rw [Nat.testBit_or, on_bit]
  congr 1
  simp [hj]
theorem wo_bit (s : Nat) (a : Int) (j : Nat) (hj : j < 32) : (wo s a).testBit j = (s.testBit j && !decide (a = j)) := by
  unfold wo
  rw [ann_bit _ _ _ hj, on_bit]
  congr 2
  simp [hj]
theorem with_f (s : Nat) (a : Int) (h : s < 2 ^ 32) : members_With.f s a = some (wth s a : Int) := by
  unfold members_With.f
  rw [one_f]
  simp only [Option.bind_some]
  rw [or_f _ _ h (on_lt a)]
  rfl
theorem without_f (s : Nat) (a : Int) : members_Without.f s a = some (wo s a : Int) := by
  unfold members_Without.f
  rw [one_f]
  simp only [Option.bind_some]
  rw [ann_f]
  rfl
def has (s : Nat) (a : Int) : Bool := decide (0 ≤ a ∧ a < 32) && s.testBit a.toNat
theorem and_on (s : Nat) (a : Int) : ((s &&& on a : Nat) ≠ 0) ↔ has s a = true := by
  unfold has
  constructor
  · intro h
    obtain ⟨j, hj⟩ := Nat.exists_testBit_of_ne_zero h
    rw [Nat.testBit_and, on_bit, Bool.and_eq_true, decide_eq_true_eq] at hj
    obtain ⟨h1, h2, h3⟩ := hj
    subst h2
    rw [Int.toNat_natCast, h1, decide_eq_true (by omega)]
    rfl
  · intro h h0
    rw [Bool.and_eq_true, decide_eq_true_eq] at h
    obtain ⟨⟨h1, h2⟩, h3⟩ := h
    have := congrArg (fun x => x.testBit a.toNat) h0
    simp only [Nat.testBit_and, Nat.zero_testBit, h3, on_bit, Bool.true_and] at this
    rw [decide_eq_true (by omega)] at this
    cases this
theorem has_f (s : Nat) (a : Int) (h : s < 2 ^ 32) : members_Has.f s a = some (has s a) := by
  unfold members_Has.f
  rw [one_f]
  simp only [Option.bind_some]
  rw [and_f _ _ h (on_lt a)]
  congr 1
  cases hh : has s a with
  | true => have := (and_on s a).2 hh; simpa using this
  | false =>
    have : ¬ ((s &&& on a : Nat) ≠ 0) := fun h => by rw [(and_on s a).1 h] at hh; cases hh
    simpa using this

/-- The least of a set; the greatest. -/
theorem ctz_bit (x : Nat) (h0 : x ≠ 0) (h : x < 2 ^ 32) : x.testBit (Lib.ctz 32 x) = true ∧ Lib.ctz 32 x < 32 ∧ ∀ j, j < Lib.ctz 32 x → x.testBit j = false := by
  unfold Lib.ctz
  rw [if_neg h0]
  obtain ⟨m, h1, h2⟩ := Lib.ctzFrom_spec 32 x (by omega) h
  generalize Lib.ctzFrom 32 x = c at *
  subst h1
  refine ⟨?_, h2, fun j hj => ?_⟩
  · rw [Nat.testBit_two_pow_mul]
    simp
  · rw [Nat.testBit_two_pow_mul]
    simp
    omega
theorem first_f (s : Nat) (h : s < 2 ^ 32) (h0 : s ≠ 0) : members_first.f s = some ((Lib.ctz 32 s : Int), true) := by
  unfold members_first.f bits_TrailingZeros32.f
  rw [if_neg (by omega), if_pos (by omega), Int.toNat_natCast]
  rfl
theorem first_0 : members_first.f ((0 : Nat) : Int) = some (0, false) := rfl
theorem top_bit (x : Nat) (h0 : x ≠ 0) (h : x < 2 ^ 32) : ∃ t, Lib.bitLen x = t + 1 ∧ t < 32 ∧ x.testBit t = true ∧ ∀ j, t < j → x.testBit j = false := by
  refine ⟨Nat.log2 x, ?_, ?_, ?_, ?_⟩
  · have h1 := Nat.log2_self_le h0
    have h2 : x < 2 ^ (x.log2 + 1) := Nat.lt_log2_self
    rw [Lib.bitLen_shift _ x h1 (by omega)]
    have : x / 2 ^ x.log2 = 1 := by
      apply Nat.div_eq_of_lt_le
      · omega
      · rw [Nat.pow_succ] at h2; omega
    rw [this]
    rfl
  · exact (Nat.log2_lt h0).2 h
  · exact Nat.testBit_log2 h0
  · intro j hj
    exact Nat.testBit_lt_two_pow (Nat.lt_of_lt_of_le Nat.lt_log2_self (Nat.pow_le_pow_right (by decide) hj))
theorem last_f (s : Nat) (h : s < 2 ^ 32) (h0 : s ≠ 0) : ∃ t : Nat, members_last.f s = some ((t : Int), true) ∧ t < 32 ∧ s.testBit t = true ∧ ∀ j, t < j → s.testBit j = false := by
  obtain ⟨t, h1, h2, h3⟩ := top_bit s h0 h
  refine ⟨t, ?_, h2, h3⟩
  unfold members_last.f bits_Len32.f
  rw [if_neg (by omega), if_pos (by omega), Int.toNat_natCast, h1]
  simp only [Option.bind_some]
  rw [w64 (by omega) (by omega)]
  congr 2
  omega
theorem last_0 : members_last.f ((0 : Nat) : Int) = some (0, false) := rfl

/-- The first one going up: how far; going down. -/
def up (s a i : Nat) : Prop := 1 ≤ i ∧ i ≤ 32 ∧ s.testBit ((a + i) % 32) = true ∧ ∀ i', 1 ≤ i' → i' < i → s.testBit ((a + i') % 32) = false
def dn (s a i : Nat) : Prop := 1 ≤ i ∧ i < 32 ∧ s.testBit ((a + 32 - i) % 32) = true ∧ ∀ i', 1 ≤ i' → i' < i → s.testBit ((a + 32 - i') % 32) = false
theorem nbit (s j : Nat) (h : s = 0) : s.testBit j = false := by rw [h]; exact Nat.zero_testBit j
theorem low_bit (a j : Nat) : ((2 ^ a - 1 ||| 2 ^ a) : Nat).testBit j = decide (j ≤ a) := by
  rw [Nat.testBit_or, Nat.testBit_two_pow_sub_one, Nat.testBit_two_pow]
  by_cases h : j < a
  · simp [h, Nat.le_of_lt h]
  · by_cases h2 : j = a
    · subst h2; simp
    · simp [h]; omega
theorem turn_f (s a : Nat) (h : s < 2 ^ 32) (ha : a < 32) : (s = 0 ∧ members_Turn.f s a = some (0, false)) ∨ ∃ i, up s a i ∧ members_Turn.f s a = some ((((a + i) % 32 : Nat) : Int), true) := by
  have hp : 2 ^ a < 2 ^ 32 := Nat.pow_lt_pow_right (by decide) ha
  have e : members_Turn.f s a = (members_first.f (ann s (2 ^ a - 1 ||| 2 ^ a) : Nat)).bind fun bt106 => (if bt106.2 = true then (some (bt106.1, true)) else ((members_first.f s).bind fun bt108 => (some (bt108.1, bt108.2)))) := by
    unfold members_Turn.f
    rw [is_f]
    simp only [Option.bind_some]
    rw [if_pos (decide_eq_true (by omega)), below_f a ha, one_f]
    simp only [Option.bind_some]
    have ho : on (a : Int) = 2 ^ a := by unfold on; rw [if_pos (by omega), Int.toNat_natCast]
    rw [ho, or_f _ _ (by omega) hp, ann_f]
  rw [e]
  have hb : ∀ j, j < 32 → (ann s (2 ^ a - 1 ||| 2 ^ a)).testBit j = (s.testBit j && decide (a < j)) := fun j hj => by
    rw [ann_bit _ _ _ hj, low_bit]
    congr 1
    by_cases h1 : j ≤ a
    · simp [h1]
    · simp [h1]; omega
  have hl := ann_lt s (2 ^ a - 1 ||| 2 ^ a)
  generalize ann s (2 ^ a - 1 ||| 2 ^ a) = t at *
  by_cases ht : t = 0
  · subst ht
    rw [first_0]
    simp only [Option.bind_some]
    rw [if_neg (by decide)]
    have hup : ∀ j, a < j → j < 32 → s.testBit j = false := fun j h1 h2 => by
      have := hb j h2
      rw [Nat.zero_testBit, decide_eq_true h1, Bool.and_true] at this
      exact this.symm
    by_cases hs : s = 0
    · subst hs
      exact .inl ⟨rfl, rfl⟩
    · right
      obtain ⟨c1, c2, c3⟩ := ctz_bit s hs h
      rw [first_f s h hs]
      generalize Lib.ctz 32 s = c at *
      have hca : c ≤ a := Nat.le_of_not_lt fun hh => by rw [hup c hh c2] at c1; cases c1
      refine ⟨32 - a + c, ⟨by omega, by omega, ?_, fun i' h1 h2 => ?_⟩, ?_⟩
      · rw [show (a + (32 - a + c)) % 32 = c by omega]; exact c1
      · by_cases h3 : a + i' < 32
        · rw [Nat.mod_eq_of_lt h3]; exact hup _ (by omega) h3
        · rw [show (a + i') % 32 = a + i' - 32 by omega]; exact c3 _ (by omega)
      · rw [show (a + (32 - a + c)) % 32 = c by omega]; rfl
  · right
    obtain ⟨c1, c2, c3⟩ := ctz_bit t ht hl
    rw [first_f t hl ht]
    generalize Lib.ctz 32 t = c at *
    rw [hb c c2, Bool.and_eq_true, decide_eq_true_eq] at c1
    refine ⟨c - a, ⟨by omega, by omega, ?_, fun i' h1 h2 => ?_⟩, ?_⟩
    · rw [show (a + (c - a)) % 32 = c by omega]; exact c1.1
    · have := c3 (a + i') (by omega)
      rw [hb _ (by omega), decide_eq_true (by omega), Bool.and_true] at this
      rw [Nat.mod_eq_of_lt (by omega)]
      exact this
    · rw [show (a + (c - a)) % 32 = c by omega]; rfl
theorem prev_f (s a : Nat) (ha : a < 32) : (wo s a = 0 ∧ members_Prev.f s a = some (0, false)) ∨ ∃ i, dn s a i ∧ members_Prev.f s a = some ((((a + 32 - i) % 32 : Nat) : Int), true) := by
  have hp : 2 ^ a < 2 ^ 32 := Nat.pow_lt_pow_right (by decide) ha
  have hwl := wo_lt s a
  have e : members_Prev.f s a = (members_last.f ((wo s a &&& (2 ^ a - 1) : Nat) : Int)).bind fun bt118 => (if bt118.2 = true then (some (bt118.1, true)) else ((members_last.f (wo s a : Nat)).bind fun bt120 => (some (bt120.1, bt120.2)))) := by
    unfold members_Prev.f
    rw [is_f]
    simp only [Option.bind_some]
    rw [if_pos (decide_eq_true (by omega)), below_f a ha, without_f]
    simp only [Option.bind_some]
    rw [and_f _ _ hwl (by omega)]
  rw [e]
  have hb : ∀ j, (wo s a &&& (2 ^ a - 1) : Nat).testBit j = ((wo s a).testBit j && decide (j < a)) := fun j => by
    rw [Nat.testBit_and, Nat.testBit_two_pow_sub_one]
  have hl : (wo s a &&& (2 ^ a - 1) : Nat) < 2 ^ 32 := Nat.lt_of_le_of_lt Nat.and_le_left hwl
  have hw : ∀ j, j < 32 → j ≠ a → s.testBit j = (wo s a).testBit j := fun j h1 h2 => by
    rw [wo_bit _ _ _ h1, decide_eq_false (by omega)]; simp
  have hwa : (wo s a).testBit a = false := by rw [wo_bit _ _ _ ha]; simp
  generalize (wo s a &&& (2 ^ a - 1) : Nat) = t at *
  generalize wo s a = u at *
  by_cases ht : t = 0
  · subst ht
    rw [last_0]
    simp only [Option.bind_some]
    rw [if_neg (by decide)]
    have hup : ∀ j, j < a → u.testBit j = false := fun j h1 => by
      have := hb j
      rw [Nat.zero_testBit, decide_eq_true h1, Bool.and_true] at this
      exact this.symm
    by_cases hs : u = 0
    · subst hs
      exact .inl ⟨rfl, rfl⟩
    · right
      obtain ⟨c, e1, c2, c1, c3⟩ := last_f u hwl hs
      rw [e1]
      have hca : a < c := Nat.lt_of_le_of_ne (Nat.le_of_not_lt fun hh => by rw [hup c hh] at c1; cases c1) (fun hh => by rw [← hh, hwa] at c1; cases c1)
      refine ⟨a + 32 - c, ⟨by omega, by omega, ?_, fun i' h1 h2 => ?_⟩, ?_⟩
      · rw [show (a + 32 - (a + 32 - c)) % 32 = c by omega, hw c c2 (by omega)]; exact c1
      · by_cases h3 : i' ≤ a
        · rw [show (a + 32 - i') % 32 = a - i' by omega, hw _ (by omega) (by omega)]; exact hup _ (by omega)
        · rw [show (a + 32 - i') % 32 = a + 32 - i' by omega, hw _ (by omega) (by omega)]; exact c3 _ (by omega)
      · rw [show (a + 32 - (a + 32 - c)) % 32 = c by omega]; rfl
  · right
    obtain ⟨c, e1, c2, c1, c3⟩ := last_f t hl ht
    rw [e1]
    rw [hb c, Bool.and_eq_true, decide_eq_true_eq] at c1
    refine ⟨a - c, ⟨by omega, by omega, ?_, fun i' h1 h2 => ?_⟩, ?_⟩
    · rw [show (a + 32 - (a - c)) % 32 = c by omega, hw c c2 (by omega)]; exact c1.1
    · have := c3 (a - i') (by omega)
      rw [hb, decide_eq_true (by omega), Bool.and_true] at this
      rw [show (a + 32 - i') % 32 = a - i' by omega, hw _ (by omega) (by omega)]
      exact this
    · rw [show (a + 32 - (a - c)) % 32 = c by omega]; rfl
theorem turn_out (s : Nat) (a : Int) (h : ¬ (0 ≤ a ∧ a < 32)) : members_Turn.f s a = some (0, false) := by
  unfold members_Turn.f
  rw [is_f]
  simp only [Option.bind_some]
  rw [if_neg (by simpa using h)]
theorem prev_out (s : Nat) (a : Int) (h : ¬ (0 ≤ a ∧ a < 32)) : members_Prev.f s a = some (0, false) := by
  unfold members_Prev.f
  rw [is_f]
  simp only [Option.bind_some]
  rw [if_neg (by simpa using h)]
theorem next_f (s : Nat) (a : Int) : members_Next.f s a = members_Turn.f (wo s a : Nat) a := by
  unfold members_Next.f
  rw [without_f]
  simp only [Option.bind_some]
  cases members_Turn.f (wo s a : Nat) a <;> rfl
end Go.Proofs.YtfhiggefmcklaaaDoor.Plain

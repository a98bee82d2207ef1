/- Plain facts on the wheel: a tick of the wheel is a tick of the document's. No condition but those that each states. -/
import Derived.Test.YtbpjcgahdgpmhaaDoorWPlain1
namespace Go.Proofs.YtbpjcgahdgpmhaaDoor.Whl
open Go.RowKit Go.Proofs.YtbpjcgahdgpmhaaDoorW.PrintWords Go.Proofs.YtbpjcgahdgpmhaaDoorW.PrintLast Go.Proofs.YtbpjcgahdgpmhaaDoorW.PrintMore

/-- Those of the first i that come. -/
def coming (s : Wh) (N : Int) (i : Nat) : List Int := ((List.range i).filter fun n => s.set.testBit n && decide (s.due n = N)).map fun (n : Nat) => (n : Int)
theorem coming_succ (s : Wh) (N : Int) (i : Nat) : coming s N (i + 1) = coming s N i ++ if (s.set.testBit i && decide (s.due i = N)) = true then [(i : Int)] else [] := by
  unfold coming
  rw [List.range_succ, List.filter_append, List.map_append]
  congr 1
  cases h : (s.set.testBit i && decide (s.due i = N)) <;> simp [h]
structure Mid (s0 : Wh) (N : Int) (i : Nat) (s1 : Wh) (l : Nat) (out : List Int) : Prop where
  good : Good s1
  due : s1.due = s0.due
  now : s1.now = N
  set : ∀ n, n < 16 → s1.set.testBit n = (s0.set.testBit n && !(decide (n < i) && decide (s0.due n = N)))
  hang : ∀ n j, n < 16 → j < 32 → (s1.spoke j).testBit n = (s1.set.testBit n && decide (slot s1 n = j))
  bits : ∀ n, n < 16 → l.testBit n = (s0.set.testBit n && decide (slot s0 n = (N % 32).toNat) && decide (i ≤ n))
  low : l < 65536
  out : out = coming s0 N i
theorem slot_due (s : Wh) (N : Int) (n : Nat) (h : s.due n = N) : slot s n = (N % 32).toNat := by unfold slot; rw [h]
/-- Where no bit stands between, all is as it was. -/
theorem Mid.pass {s0 s1 : Wh} {N : Int} {i c l : Nat} {out : List Int} (h : Mid s0 N i s1 l out) (hic : i ≤ c) (hc : c ≤ 16) (hno : ∀ n, i ≤ n → n < c → l.testBit n = false) : Mid s0 N c s1 l out := by
  have key : ∀ n, i ≤ n → n < c → (s0.set.testBit n && decide (s0.due n = N)) = false := fun n h1 h2 => by
    have hb := hno n h1 h2
    rw [h.bits n (by omega), decide_eq_true h1, Bool.and_true] at hb
    by_cases e : s0.due n = N
    · rw [decide_eq_true (slot_due s0 N n e), Bool.and_true] at hb
      rw [hb]; rfl
    · rw [decide_eq_false e, Bool.and_false]
  refine ⟨h.good, h.due, h.now, fun n hn => ?_, h.hang, fun n hn => ?_, h.low, ?_⟩
  · rw [h.set n hn]
    by_cases h1 : n < i
    · rw [decide_eq_true h1, decide_eq_true (show n < c by omega)]
    · by_cases h2 : n < c
      · have hk := key n (by omega) h2
        rw [decide_eq_false h1, decide_eq_true h2]
        cases hb : s0.set.testBit n with
        | false => rfl
        | true => rw [hb, Bool.true_and] at hk; rw [hk]; rfl
      · rw [decide_eq_false h1, decide_eq_false h2]
  · rw [h.bits n hn]
    by_cases h1 : i ≤ n
    · by_cases h2 : c ≤ n
      · rw [decide_eq_true h1, decide_eq_true h2]
      · have hb := hno n h1 (by omega)
        rw [h.bits n hn] at hb
        rw [hb, decide_eq_false h2, Bool.and_false]
    · rw [decide_eq_false h1, decide_eq_false (show ¬ c ≤ n by omega)]
  · rw [h.out]
    clear hno h
    induction c with
    | zero => rw [show i = 0 by omega]
    | succ c ih =>
      by_cases e : i = c + 1
      · rw [e]
      · rw [coming_succ, key c (by omega) (by omega), ih (by omega) (by omega) (fun n h1 h2 => key n h1 (by omega))]
        simp
theorem tl_ends (s0 : Wh) (N : Int) : ∀ (k i : Nat) (s1 : Wh) (l : Nat) (out : List Int), 16 - i < k → i ≤ 16 → Mid s0 N i s1 l out → ∃ s2 out2, tl k s1 l out = some (s2, out2) ∧ Mid s0 N 16 s2 0 out2
  | 0, _, _, _, _, h, _, _ => by omega
  | k + 1, i, s1, l, out, hk, hi, h => by
    by_cases h0 : l = 0
    · subst h0
      refine ⟨s1, out, by simp only [tl]; rw [if_pos trivial], h.pass hi (Nat.le_refl _) fun n _ _ => Nat.zero_testBit n⟩
    · obtain ⟨c1, c2, c3, c4⟩ := ctz_low l h0 h.low
      generalize hc : Lib.ctz 16 l = c at *
      have hb := h.bits c c1
      rw [c2] at hb
      have hic : i ≤ c := by
        have := hb.symm
        rw [Bool.and_eq_true, decide_eq_true_eq] at this
        exact this.2
      have hset0 : s0.set.testBit c = true := by
        have := hb.symm
        rw [Bool.and_eq_true, Bool.and_eq_true] at this
        exact this.1.1
      have hm := h.pass hic (by omega) fun n _ hn => c3 n hn
      have hsc : s1.set.testBit c = true := by
        rw [hm.set c c1, hset0, decide_eq_false (Nat.lt_irrefl c)]; rfl
      have hlow : l &&& (l - 1) < 65536 := Nat.lt_of_le_of_lt Nat.and_le_left h.low
      have hbits : ∀ n, n < 16 → (l &&& (l - 1)).testBit n = (s0.set.testBit n && decide (slot s0 n = (N % 32).toNat) && decide (c + 1 ≤ n)) := fun n hn => by
        rw [c4, hm.bits n hn]
        by_cases h1 : c ≤ n
        · by_cases h2 : n = c
          · rw [decide_eq_true h2, decide_eq_false (show ¬ c + 1 ≤ n by omega)]; simp
          · rw [decide_eq_false h2, decide_eq_true h1, decide_eq_true (show c + 1 ≤ n by omega)]; simp
        · rw [decide_eq_false h1, decide_eq_false (show ¬ c + 1 ≤ n by omega)]; simp
      by_cases hd : s1.due c = s1.now
      · have hd0 : s0.due c = N := by rw [← h.due, hd, h.now]
        have hm2 : Mid s0 N (c + 1) (canc s1 c) (l &&& (l - 1)) (out ++ [(c : Int)]) := by
          refine ⟨canc_good hm.good _, (canc_due _ _).trans hm.due, (canc_now _ _).trans hm.now, fun n hn => ?_, hang_canc hm.hang c c1, hbits, hlow, ?_⟩
          · rw [canc_bit s1 c n c1 hn, hm.set n hn]
            by_cases h1 : n < c
            · rw [decide_eq_true h1, decide_eq_true (show n < c + 1 by omega), decide_eq_false (show ¬ n = c by omega)]; simp
            · by_cases h2 : n = c
              · subst h2; rw [decide_eq_true (Nat.lt_succ_self n), decide_eq_true hd0]; simp
              · rw [decide_eq_false h1, decide_eq_false (show ¬ n < c + 1 by omega), decide_eq_false h2]; simp
          · rw [coming_succ, hset0, decide_eq_true hd0, hm.out]; rfl
        obtain ⟨s2, o2, e, m2⟩ := tl_ends s0 N k (c + 1) _ _ _ (by omega) (by omega) hm2
        refine ⟨s2, o2, ?_, m2⟩
        simp only [tl]
        rw [if_neg h0, hc, if_pos hd]
        exact e
      · have hd0 : ¬ s0.due c = N := by rw [← h.due, ← h.now]; exact hd
        have hm2 : Mid s0 N (c + 1) s1 (l &&& (l - 1)) out := by
          refine ⟨hm.good, hm.due, hm.now, fun n hn => ?_, hm.hang, hbits, hlow, ?_⟩
          · rw [hm.set n hn]
            by_cases h1 : n < c
            · rw [decide_eq_true h1, decide_eq_true (show n < c + 1 by omega)]
            · by_cases h2 : n = c
              · subst h2; rw [decide_eq_false hd0]; simp
              · rw [decide_eq_false h1, decide_eq_false (show ¬ n < c + 1 by omega)]
          · rw [coming_succ, hset0, decide_eq_false hd0, hm.out]; simp
        obtain ⟨s2, o2, e, m2⟩ := tl_ends s0 N k (c + 1) _ _ _ (by omega) (by omega) hm2
        refine ⟨s2, o2, ?_, m2⟩
        simp only [tl]
        rw [if_neg h0, hc, if_neg hd]
        exact e

/-- What is left of each. -/
def view (s : Wh) (n : Nat) : Int := if s.set.testBit n = true then s.due n - s.now else 0
theorem view_rng {s : Wh} (h : Inv s) (n : Nat) (hn : n < 16) : 0 ≤ view s n ∧ view s n ≤ 10000 ∧ (0 < view s n ↔ s.set.testBit n = true) := by
  unfold view
  cases hb : s.set.testBit n with
  | true => have := h.soon n hn hb; simp only [if_pos]; constructor; omega; constructor; omega; constructor; (intro; trivial); (intro; omega)
  | false => simp
theorem left_view {s : Wh} (h : Inv s) (n : Nat) (hn : n < 16) : left s n = view s n := by
  unfold left view has
  rw [decide_eq_true (show 0 ≤ (n : Int) ∧ (n : Int) < 16 by omega), Int.toNat_natCast, Bool.true_and]
  cases hb : s.set.testBit n with
  | true =>
    have := h.soon n hn hb
    have := h.good.now0
    have := h.good.now1
    simp only [if_pos]
    exact w64 (by omega) (by omega)
  | false => rfl
theorem left_rleft {s : Wh} (h : Inv s) (x : Nat → Int) (hx : ∀ n, n < 16 → view s n = x n) (id : Int) : left s id = rleft x id := by
  unfold rleft
  by_cases hr : 0 ≤ id ∧ id < 16
  · obtain ⟨n, rfl⟩ := Int.eq_ofNat_of_zero_le hr.1
    rw [if_pos hr, Int.toNat_natCast, left_view h n (by omega), hx n (by omega)]
  · rw [if_neg hr]
    unfold left has
    rw [decide_eq_false hr, Bool.false_and]
    rfl
theorem tick_inv {s : Wh} (h : Inv s) (hn : s.now < 1000000000000) : ∃ r, tick s = some r ∧ Inv r.1 ∧ (∀ n, n < 16 → view r.1 n = dec (view s n)) ∧ r.2 = rout (view s) 16 ∧ r.1.now ≤ s.now + 1 := by
  have h0 := h.good.now0
  have hq : ((s.now + 1) % 32).toNat < 32 := by omega
  have m0 : Mid { s with now := s.now + 1 } (s.now + 1) 0 { s with now := s.now + 1 } (s.spoke ((s.now + 1) % 32).toNat) [] := by
    refine ⟨⟨h.good.set, h.good.due, h.good.spoke, by show (0 : Int) ≤ s.now + 1; omega, by show s.now + 1 ≤ _; omega⟩, rfl, rfl, fun n hn => ?_, fun n j hn hj => h.hang n j hn hj, fun n hn => ?_, h.good.spoke _ hq, rfl⟩
    · rw [decide_eq_false (Nat.not_lt_zero n)]; simp
    · rw [decide_eq_true (Nat.zero_le n), Bool.and_true]
      exact h.hang n _ hn hq
  obtain ⟨s2, o2, e, m2⟩ := tl_ends _ _ 20 0 _ _ _ (by omega) (by omega) m0
  have et : tick s = some (rest s2, o2) := by unfold tick; rw [e]; rfl
  have hset : ∀ n, n < 16 → s2.set.testBit n = (s.set.testBit n && !decide (s.due n = s.now + 1)) := fun n hn => by
    rw [m2.set n hn, decide_eq_true (show n < 16 from hn), Bool.true_and]
  have hnow2 : s2.now = s.now + 1 := m2.now
  have hdue2 : s2.due = s.due := m2.due
  have hv : ∀ n, n < 16 → view s2 n = dec (view s n) := fun n hn => by
    unfold view dec
    rw [hset n hn, hnow2, hdue2]
    cases hb : s.set.testBit n with
    | false => rfl
    | true =>
      have := h.soon n hn hb
      by_cases e1 : s.due n = s.now + 1
      · rw [decide_eq_true e1, e1]
        simp
        omega
      · rw [decide_eq_false e1]
        simp only [Bool.not_false, Bool.and_true, if_pos]
        rw [if_pos (by omega)]
        omega
  have i2 : Inv s2 := ⟨m2.good, m2.hang, fun n hn hb => by
    rw [hset n hn, Bool.and_eq_true] at hb
    have h1 := h.soon n hn hb.1
    have h2 : ¬ s.due n = s.now + 1 := by simpa using hb.2
    rw [hnow2, hdue2]
    omega⟩
  have ho : o2 = rout (view s) 16 := by
    rw [m2.out]
    unfold coming rout
    congr 1
    apply List.filter_congr
    intro n hn
    have hn := List.mem_range.1 hn
    show (s.set.testBit n && decide (s.due n = s.now + 1)) = decide (view s n = 1)
    unfold view
    cases hb : s.set.testBit n with
    | false => rfl
    | true =>
      simp only [Bool.true_and, if_pos]
      rw [decide_eq_decide]
      omega
  refine ⟨_, et, ?_, ?_, ho, ?_⟩
  · show Inv (rest s2)
    unfold rest
    split
    · rename_i z
      refine ⟨⟨i2.good.set, i2.good.due, i2.good.spoke, by show (0 : Int) ≤ 0; omega, by show (0 : Int) ≤ _; omega⟩, i2.hang, fun n hn hb => ?_⟩
      have hb' : s2.set.testBit n = true := hb
      rw [z, Nat.zero_testBit] at hb'
      cases hb'
    · exact i2
  · intro n hn
    show view (rest s2) n = _
    rw [← hv n hn]
    unfold rest
    split
    · rename_i z
      unfold view
      show (if s2.set.testBit n = true then _ else (0 : Int)) = _
      rw [z, Nat.zero_testBit]
      rfl
    · rfl
  · show (rest s2).now ≤ _
    unfold rest
    split
    · show (0 : Int) ≤ _; omega
    · omega
end Go.Proofs.YtbpjcgahdgpmhaaDoor.Whl

/- Plain facts on the wheel: setting, cancelling, the soonest, how many: as the document's. No condition but those that each states. -/
import Derived.Test.YtbpjcgahdgpmhaaDoorWPlain2
namespace Go.Proofs.YtbpjcgahdgpmhaaDoor.Whl
open Go.RowKit Go.Proofs.YtbpjcgahdgpmhaaDoorW.PrintWords Go.Proofs.YtbpjcgahdgpmhaaDoorW.PrintLast Go.Proofs.YtbpjcgahdgpmhaaDoorW.PrintMore

theorem canc_view (s : Wh) (n m : Nat) (hn : n < 16) (hm : m < 16) : view (canc s n) m = up (view s) n 0 m := by
  unfold view up
  rw [canc_bit s n m hn hm, canc_now, canc_due]
  by_cases h : m = n
  · rw [decide_eq_true h, if_pos h]; simp
  · rw [decide_eq_false h, if_neg h]; simp
theorem put_inv {s : Wh} (h : Inv s) (n : Nat) (t : Int) (hn : n < 16) (ht : 1 ≤ t) (ht' : t ≤ 10000) : Inv (put (canc s n) n (s.now + t)) ∧ ∀ m, m < 16 → view (put (canc s n) n (s.now + t)) m = up (view s) n t m := by
  have hi := canc_inv h n hn
  have h0 := h.good.now0
  have hb : (canc s n).set.testBit n = false := by rw [canc_bit s n n hn hn]; simp
  have hnow : (canc s n).now = s.now := canc_now s n
  have hview : ∀ m, m < 16 → m ≠ n → view (canc s n) m = view s m := fun m hm e => by rw [canc_view s n m hn hm]; unfold up; rw [if_neg e]
  rw [← hnow] at h0 ⊢
  clear hnow
  generalize canc s n = c at *
  have hset : ∀ m, (put c n (c.now + t)).set.testBit m = (c.set.testBit m || decide (m = n)) := fun m => or_pow _ _ _
  have hdue : ∀ m, (put c n (c.now + t)).due m = if m = n then c.now + t else c.due m := fun m => rfl
  have hslot : ∀ m, slot (put c n (c.now + t)) m = if m = n then ((c.now + t) % 32).toNat else slot c m := fun m => by
    unfold slot
    rw [hdue]
    split <;> rfl
  have hq : ((c.now + t) % 32).toNat < 32 := by omega
  refine ⟨⟨⟨or_lt _ _ hi.good.set hn, fun j hj => by
      rw [hdue]
      split
      · omega
      · exact hi.good.due j hj, fun j hj => by
      show up c.spoke _ _ j < 65536
      unfold up
      split
      · exact or_lt _ _ (hi.good.spoke _ hq) hn
      · exact hi.good.spoke j hj, hi.good.now0, hi.good.now1⟩, fun m j hm hj => ?_, fun m hm hbm => ?_⟩, fun m hm => ?_⟩
  · rw [hset, hslot]
    show (up c.spoke ((c.now + t) % 32).toNat (c.spoke ((c.now + t) % 32).toNat ||| 2 ^ n) j).testBit m = _
    unfold up
    by_cases e : m = n
    · subst e
      rw [if_pos rfl, decide_eq_true (p := m = m) rfl, Bool.or_true, Bool.true_and]
      by_cases e2 : j = ((c.now + t) % 32).toNat
      · rw [if_pos e2, or_pow, decide_eq_true (p := m = m) rfl, Bool.or_true, decide_eq_true e2.symm]
      · rw [if_neg e2, hi.hang m j hm hj, hb, Bool.false_and, decide_eq_false (fun x => e2 x.symm)]
    · rw [if_neg e, decide_eq_false e, Bool.or_false]
      by_cases e2 : j = ((c.now + t) % 32).toNat
      · rw [if_pos e2, or_pow, decide_eq_false e, Bool.or_false, ← e2]
        exact hi.hang m j hm hj
      · rw [if_neg e2]
        exact hi.hang m j hm hj
  · rw [hset] at hbm
    rw [hdue]
    show c.now < _ ∧ _ ≤ c.now + 10000
    by_cases e : m = n
    · rw [if_pos e]; omega
    · rw [if_neg e]
      rw [decide_eq_false e, Bool.or_false] at hbm
      exact hi.soon m hm hbm
  · show (if (put c n (c.now + t)).set.testBit m = true then (put c n (c.now + t)).due m - c.now else 0) = _
    rw [hset, hdue]
    unfold up
    by_cases e : m = n
    · rw [if_pos e, if_pos e, decide_eq_true e, Bool.or_true, if_pos rfl]; omega
    · rw [if_neg e, if_neg e, decide_eq_false e, Bool.or_false]
      exact hview m hm e
theorem sfold_congr (f f' : Nat → Int) : ∀ i, (∀ j, j < i → f j = f' j) → sfold f i = sfold f' i
  | 0, _ => rfl
  | i + 1, h => by
    rw [sfold_succ, sfold_succ, sfold_congr f f' i (fun j hj => h j (by omega))]
    unfold sstep
    rw [h i (by omega)]
theorem rfold_congr (f f' : Nat → Int) : ∀ i, (∀ j, j < i → f j = f' j) → rfold f i = rfold f' i
  | 0, _ => rfl
  | i + 1, h => by
    rw [rfold_succ, rfold_succ, rfold_congr f f' i (fun j hj => h j (by omega))]
    unfold rstep
    rw [h i (by omega)]
theorem sfold_rfold (f : Nat → Int) : ∀ i, sfold f i = (rfold f i, decide (0 < rfold f i)) ∧ 0 ≤ rfold f i
  | 0 => ⟨rfl, by simp [rfold]⟩
  | i + 1 => by
    obtain ⟨h1, h2⟩ := sfold_rfold f i
    rw [sfold_succ, rfold_succ, h1]
    unfold sstep rstep
    simp only
    by_cases c : 0 < f i
    · by_cases c2 : rfold f i = 0
      · rw [if_pos ⟨c, .inl (decide_eq_false (by omega))⟩, if_pos ⟨c, .inl c2⟩, decide_eq_true c]
        exact ⟨rfl, by omega⟩
      · by_cases c3 : f i < rfold f i
        · rw [if_pos ⟨c, .inr c3⟩, if_pos ⟨c, .inr c3⟩, decide_eq_true c]
          exact ⟨rfl, by omega⟩
        · rw [if_neg (by rintro ⟨_, h | h⟩; (have := of_decide_eq_false h; omega); exact c3 h), if_neg (by rintro ⟨_, h | h⟩; (exact c2 h); exact c3 h)]
          exact ⟨rfl, h2⟩
    · rw [if_neg (fun h => c h.1), if_neg (fun h => c h.1)]
      exact ⟨rfl, h2⟩
/-- How many are set. -/
def num (x : Nat → Int) (i : Nat) : Nat := ((List.range i).filter fun j => decide (0 < x j)).length
theorem num_succ (x : Nat → Int) (i : Nat) : num x (i + 1) = num x i + if 0 < x i then 1 else 0 := by
  unfold num
  rw [List.range_succ, List.filter_append, List.length_append]
  congr 1
  by_cases h : 0 < x i <;> simp [h]
theorem rfold_num (x : Nat → Int) : ∀ i, 0 < rfold x i ↔ 0 < num x i
  | 0 => by simp [rfold, num]
  | i + 1 => by
    have ih := rfold_num x i
    have hz := (sfold_rfold x i).2
    rw [rfold_succ, num_succ]
    unfold rstep
    by_cases c : 0 < x i
    · rw [if_pos c]
      split
      · omega
      · rename_i hh
        have : ¬ rfold x i = 0 := fun h => hh ⟨c, .inl h⟩
        omega
    · rw [if_neg c, if_neg (fun h => c h.1), Nat.add_zero]
      exact ih
theorem cntr_num (x : Nat → Int) : ∀ i, i ≤ 16 → cntr x (i + 1) = num x i
  | 0, _ => rfl
  | i + 1, h => by
    have ih := cntr_num x i (by omega)
    rw [show cntr x (i + 1 + 1) = cntr x (i + 1) + if 0 < rleft x (((i + 1 : Nat) : Int) - 1) then 1 else 0 from rfl, ih, num_succ]
    have e : (((i + 1 : Nat) : Int) - 1) = (i : Int) := by omega
    have e5 : rleft x (i : Int) = x i := by unfold rleft; rw [if_pos (by omega), Int.toNat_natCast]
    rw [e, e5]
theorem cntr_18 (x : Nat → Int) : cntr x 18 = num x 16 := by
  have e5 : rleft x (((17 : Nat) : Int) - 1) = 0 := by unfold rleft; rw [if_neg (by omega)]
  rw [show cntr x 18 = cntr x 17 + if 0 < rleft x (((17 : Nat) : Int) - 1) then 1 else 0 from rfl, cntr_num x 16 (by omega), e5]
  rfl
def cnt (n x : Nat) : Nat := ((List.range n).filter x.testBit).length
theorem cnt_add (m n x : Nat) : cnt (m + n) x = cnt m x + cnt n (x / 2 ^ m) := by
  unfold cnt
  rw [List.range_add, List.filter_append, List.length_append, List.filter_map, List.length_map]
  congr 2
  apply List.filter_congr
  intro j _
  simp only [Function.comp]
  rw [Nat.add_comm m j, Nat.testBit_add]
theorem cnt_mod (x : Nat) : cnt 8 x = cnt 8 (x % 256) := by
  unfold cnt
  congr 1
  apply List.filter_congr
  intro j hj
  rw [show (256 : Nat) = 2 ^ 8 from rfl, Nat.testBit_mod_two_pow, decide_eq_true (List.mem_range.1 hj), Bool.true_and]
theorem cnt_8 : ∀ n : Fin 256, Lib.onesCount n.val = cnt 8 n.val := by decide +kernel
theorem ones_cnt (x : Nat) (hx : x < 65536) : ones x = cnt 16 x := by
  rw [show (16 : Nat) = 8 + 8 from rfl, cnt_add]
  unfold ones
  rw [cnt_8 ⟨x / 256, by omega⟩, cnt_8 ⟨x % 256, by omega⟩]
  simp only
  rw [cnt_mod x, show (2 ^ 8 : Nat) = 256 from rfl]
  omega
theorem ones_num {s : Wh} (h : Inv s) : ones s.set = num (view s) 16 := by
  rw [ones_cnt _ h.good.set]
  unfold cnt num
  congr 1
  apply List.filter_congr
  intro n hn
  have hn := List.mem_range.1 hn
  rw [Bool.eq_iff_iff, decide_eq_true_eq]
  exact (view_rng h n hn).2.2.symm
/-- All that the comparison asks, where both agree. -/
theorem agree {s : Wh} (h : Inv s) (x : Nat → Int) (hx : ∀ n, n < 16 → view s n = x n) :
    (∀ id : Int, left s id = rleft x id) ∧ ones s.set = cntr x 18 ∧ (soon s).1 = rsoon x ∧ (soon s).2 = decide (0 < (cntr x 18 : Int)) := by
  have e1 : soon s = sfold x 16 := sfold_congr _ _ 16 fun j hj => by rw [left_view h j hj, hx j hj]
  have e2 : num (view s) 16 = num x 16 := by
    unfold num
    congr 1
    apply List.filter_congr
    intro n hn
    rw [hx n (List.mem_range.1 hn)]
  have e3 := rfold_num x 16
  refine ⟨left_rleft h x hx, by rw [ones_num h, e2, cntr_18], ?_, ?_⟩
  · rw [e1, (sfold_rfold x 16).1]; rfl
  · rw [e1, (sfold_rfold x 16).1, cntr_18]
    show decide (0 < rfold x 16) = _
    rw [decide_eq_decide]
    omega
end Go.Proofs.YtbpjcgahdgpmhaaDoor.Whl

/- Plain facts on sets of addresses: the reference's searches, bit by bit; who comes next, up and down. No condition but those that each states. -/
import Derived.Test.YtfhiggefmcklaaaDoorPlain1
namespace Go.Proofs.YtfhiggefmcklaaaDoor.Plain
open Go.RowKit Go.Proofs.YtfhiggefmcklaaaDoor.Own Go.Proofs.YtfhiggefmcklaaaDoorW.PrintWords Go.Proofs.YtfhiggefmcklaaaDoorW.PrintLast Go.Proofs.YtfhiggefmcklaaaDoorW.PrintMore

theorem has_out (s : Nat) (a : Int) (h : ¬ (0 ≤ a ∧ a < 32)) : Ev (fun k => fuglemanref05_Has.f k s a) false := by
  have e : ∀ k, fuglemanref05_Has.f k s a = fuglemanref05_Has.j0 k s a true := fun k => by
    unfold fuglemanref05_Has.f
    split
    · rfl
    · rw [decide_eq_true (by omega)]
  refine Ev.congr e (Ev.step (f := fun _ => some _) (fun k => ?_) (Ev.now _))
  simp only [fuglemanref05_Has.j0]
  rfl
theorem has_loop (a : Nat) (ha : a < 32) : ∀ (d i : Nat) (x : Nat), a - i = d → i ≤ a → x < 2 ^ 32 → Ev (fun k => fuglemanref05_Has.l0 k x a i) (x.testBit d)
  | 0, i, x, hd, hi, hx => by
    refine Ev.step (f := fun _ => some _) (fun k => ?_) (Ev.now _)
    simp only [fuglemanref05_Has.l0]
    rw [if_neg (by omega), Int.tmod_eq_emod_of_nonneg (by omega), Nat.testBit_zero]
    congr 1
    have h2 : ((x : Int) % 2) = ((x % 2 : Nat) : Int) := by omega
    rw [h2]
    rcases Nat.mod_two_eq_zero_or_one x with h | h <;> rw [h] <;> rfl
  | d + 1, i, x, hd, hi, hx => by
    have ih := has_loop a ha d (i + 1) (x / 2) (by omega) (by omega) (by omega)
    rw [Nat.testBit_succ]
    refine Ev.step (fun k => ?_) ih
    simp only [fuglemanref05_Has.l0]
    rw [if_pos (by omega), w64 (by omega) (by omega), Int.tdiv_eq_ediv_of_nonneg (by omega)]
    congr 1
    omega
theorem has_ref (s : Nat) (a : Int) (hs : s < 2 ^ 32) : Ev (fun k => fuglemanref05_Has.f k s a) (has s a) := by
  unfold has
  by_cases h : 0 ≤ a ∧ a < 32
  · rw [decide_eq_true h, Bool.true_and]
    obtain ⟨n, rfl⟩ := Int.eq_ofNat_of_zero_le h.1
    have e : ∀ k, fuglemanref05_Has.f k s n = fuglemanref05_Has.j0 k s n false := fun k => by
      unfold fuglemanref05_Has.f
      rw [if_neg (by omega), decide_eq_false (by omega)]
    refine Ev.congr e (Ev.step (fun k => ?_) (has_loop n (by omega) n 0 s (by omega) (by omega) hs))
    simp only [fuglemanref05_Has.j0]
    rfl
  · rw [decide_eq_false h, Bool.false_and]
    exact has_out s a h
theorem hasN (s j : Nat) (hj : j < 32) : has s j = s.testBit j := by
  unfold has
  rw [decide_eq_true (by omega), Int.toNat_natCast, Bool.true_and]

theorem add_or (s a : Nat) (hs : s < 2 ^ 32) (ha : a < 32) (h : s.testBit a = false) : (s + 2 ^ a) % 2 ^ 32 = s ||| 2 ^ a := by
  have hp : 2 ^ a < 2 ^ 32 := Nat.pow_lt_pow_right (by decide) ha
  have h0 : BitVec.ofNat 32 s &&& BitVec.ofNat 32 (2 ^ a) = 0#32 := by
    apply BitVec.eq_of_getLsbD_eq
    intro i hi
    rw [BitVec.getLsbD_and, BitVec.getLsbD_ofNat, BitVec.getLsbD_ofNat, Nat.testBit_two_pow, BitVec.getLsbD_zero]
    by_cases hia : a = i
    · subst hia; simp [h]
    · simp [hia]
  have := congrArg BitVec.toNat (BitVec.add_eq_or_of_and_eq_zero _ _ h0)
  rw [BitVec.toNat_add, BitVec.toNat_or, BitVec.toNat_ofNat, BitVec.toNat_ofNat, Nat.mod_eq_of_lt hs, Nat.mod_eq_of_lt hp] at this
  exact this
theorem with_loop (s a : Nat) (ha : a < 32) (hs : s < 2 ^ 32) (h : s.testBit a = false) : ∀ (d i : Nat), a - i = d → i ≤ a → Ev (fun k => fuglemanref05_With.l0 k s a ((2 ^ i : Nat) : Int) i) (wth s a : Int)
  | 0, i, hd, hi => by
    obtain rfl : i = a := by omega
    refine Ev.step (f := fun _ => some _) (fun k => ?_) (Ev.now _)
    simp only [fuglemanref05_With.l0]
    rw [if_neg (by omega)]
    have := add_or s i hs ha h
    have ho : on (i : Int) = 2 ^ i := by unfold on; rw [if_pos (by omega), Int.toNat_natCast]
    unfold wth
    rw [ho, ← this]
    congr 1
  | d + 1, i, hd, hi => by
    have ih := with_loop s a ha hs h d (i + 1) (by omega) (by omega)
    have hp : 2 ^ (i + 1) < 2 ^ 32 := Nat.pow_lt_pow_right (by decide) (by omega)
    refine Ev.step (fun k => ?_) ih
    simp only [fuglemanref05_With.l0]
    rw [if_pos (by omega), w64 (by omega) (by omega)]
    congr 1
    rw [Nat.pow_succ] at hp ⊢
    generalize 2 ^ i = p at *
    omega
theorem with_ref (s : Nat) (a : Int) (hs : s < 2 ^ 32) : Ev (fun k => fuglemanref05_With.f k s a) (wth s a : Int) := by
  have stop : wth s a = s → Ev (fun k => fuglemanref05_With.j0 k s a true) (wth s a : Int) := fun e => by
    refine Ev.step (f := fun _ => some _) (fun k => ?_) (Ev.now _)
    simp only [fuglemanref05_With.j0]
    rw [e]
    rfl
  by_cases h : 0 ≤ a ∧ a < 32
  · obtain ⟨n, rfl⟩ := Int.eq_ofNat_of_zero_le h.1
    have e : ∀ k, fuglemanref05_With.f k s n = (fuglemanref05_Has.f k s n).bind fun t164 => (fuglemanref05_With.j0 k s n t164) := fun k => by
      unfold fuglemanref05_With.f
      rw [if_neg (by omega), if_neg (by omega)]
    refine Ev.congr e (Ev.bind (has_ref s n hs) ?_)
    rw [hasN s n (by omega)]
    cases hb : s.testBit n with
    | true =>
      refine stop (ext32 (wth_lt _ hs) hs fun j hj => ?_)
      rw [wth_bit _ _ _ hj]
      by_cases hj : n = j
      · subst hj; simp [hb]
      · rw [decide_eq_false (by omega), Bool.or_false]
    | false =>
      refine Ev.step (fun k => ?_) (with_loop s n (by omega) hs hb n 0 (by omega) (by omega))
      simp only [fuglemanref05_With.j0]
      rfl
  · have e : ∀ k, fuglemanref05_With.f k s a = fuglemanref05_With.j0 k s a true := fun k => by
      unfold fuglemanref05_With.f
      split
      · rfl
      · rw [if_pos (by omega)]
    refine Ev.congr e (stop ?_)
    unfold wth on
    rw [if_neg h]
    simp

/-- The members, rising. -/
def pre (s i : Nat) : List Int := ((List.range i).filter s.testBit).map fun (j : Nat) => (j : Int)
theorem pre_succ (s i : Nat) : pre s (i + 1) = pre s i ++ if s.testBit i = true then [(i : Int)] else [] := by
  unfold pre
  rw [List.range_succ, List.filter_append, List.map_append]
  congr 1
  cases h : s.testBit i <;> simp [h]
theorem pre_le (s i : Nat) : (pre s i).length ≤ i := by
  have := List.length_filter_le s.testBit (List.range i)
  simp [pre] at *
  exact this
theorem pre_mem (s i : Nat) (x : Int) : x ∈ pre s i ↔ ∃ j : Nat, x = j ∧ j < i ∧ s.testBit j = true := by
  unfold pre
  simp only [List.mem_map, List.mem_filter, List.mem_range]
  constructor
  · rintro ⟨j, ⟨h1, h2⟩, rfl⟩; exact ⟨j, rfl, h1, h2⟩
  · rintro ⟨j, rfl, h1, h2⟩; exact ⟨j, ⟨h1, h2⟩, rfl⟩
def lst (s : Nat) : List Int := pre s 32
theorem list_loop (s : Nat) (hs : s < 2 ^ 32) : ∀ (d i : Nat), 32 - i = d → i ≤ 32 → Ev (fun k => fuglemanref05_List.l0 k s (pre s i) i) (lst s)
  | 0, i, hd, hi => by
    obtain rfl : i = 32 := by omega
    refine Ev.step (f := fun _ => some _) (fun k => ?_) (Ev.now _)
    simp only [fuglemanref05_List.l0]
    rw [if_neg (by omega)]
    rfl
  | d + 1, i, hd, hi => by
    have ih := list_loop s hs d (i + 1) (by omega) (by omega)
    have hl := pre_le s i
    refine Ev.step (f := fun k => (fuglemanref05_Has.f k s i).bind fun t160 => (if t160 = true then (if (pre s i).length < 17592186044416 then (fuglemanref05_List.l0 k s (pre s i ++ [(i : Int)]) (wrap64 (i + 1))) else (none)) else (fuglemanref05_List.l0 k s (pre s i) (wrap64 (i + 1))))) (fun k => ?_) (Ev.bind (has_ref s i hs) ?_)
    · simp only [fuglemanref05_List.l0]
      rw [if_pos (by omega)]
    · rw [hasN s i (by omega), w64 (by omega) (by omega)]
      rw [pre_succ] at ih
      cases hb : s.testBit i with
      | true => simp only [if_pos, hb] at ih ⊢; exact Ev.congr (fun k => if_pos (by omega)) ih
      | false => simp only [hb, Bool.false_eq_true, if_false, List.append_nil] at ih ⊢; exact ih
theorem list_ref (s : Nat) (hs : s < 2 ^ 32) : Ev (fun k => fuglemanref05_List.f k s) (lst s) := list_loop s hs 32 0 (by omega) (by omega)

/-- A list's members put in one by one, where a test lets them. -/
def put (q : Int → Bool) (o : Nat) (l : List Int) : Nat := l.foldl (fun o x => if q x then wth o x else o) o
theorem put_lt (q : Int → Bool) : ∀ (l : List Int) (o : Nat), o < 2 ^ 32 → put q o l < 2 ^ 32
  | [], _, h => h
  | x :: l, o, h => by
    show put q (if q x then wth o x else o) l < _
    apply put_lt
    split
    · exact wth_lt _ h
    · exact h
theorem put_bit (q : Int → Bool) : ∀ (l : List Int) (o j : Nat), j < 32 → (put q o l).testBit j = (o.testBit j || (l.any fun x => q x && decide (x = j)))
  | [], o, j, _ => by simp [put]
  | x :: l, o, j, hj => by
    show (put q (if q x then wth o x else o) l).testBit j = _
    rw [put_bit q l _ j hj, List.any_cons]
    cases q x
    · simp
    · simp [wth_bit _ _ _ hj, Bool.or_assoc]
theorem rd_nat (l : List Int) (j : Nat) : rd l (j : Int) = l.getD j 0 := by unfold rd; rw [Int.toNat_natCast]
theorem take_put (q : Int → Bool) (o : Nat) (l : List Int) (i : Nat) (hi : i < l.length) : put q o (l.take (i + 1)) = if q (rd l i) then wth (put q o (l.take i)) (rd l i) else put q o (l.take i) := by
  unfold put
  rw [List.take_succ_eq_append_getElem hi, List.foldl_append, rd_nat]
  have : l.getD i 0 = l[i] := by simp [List.getD, hi]
  rw [this]
  rfl
theorem without_loop (a : Int) (l : List Int) (hl : l.length ≤ 1000) : ∀ (d i : Nat), l.length - i = d → i ≤ l.length → Ev (fun k => fuglemanref05_Without.l0 k a (put (fun x => decide (x ≠ a)) 0 (l.take i) : Nat) l i) (put (fun x => decide (x ≠ a)) 0 l : Nat)
  | 0, i, hd, hi => by
    obtain rfl : i = l.length := by omega
    refine Ev.step (f := fun _ => some _) (fun k => ?_) (Ev.now _)
    simp only [fuglemanref05_Without.l0]
    rw [if_neg (by omega), List.take_length]
  | d + 1, i, hd, hi => by
    have ih := without_loop a l hl d (i + 1) (by omega) (by omega)
    rw [take_put _ _ _ _ (by omega)] at ih
    have hlt := put_lt (fun x => decide (x ≠ a)) (l.take i) 0 (by decide)
    by_cases hx : rd l i = a
    · rw [if_neg (by simpa using hx)] at ih
      refine Ev.step (fun k => ?_) ih
      simp only [fuglemanref05_Without.l0]
      rw [if_pos (by omega), if_pos (by omega), if_pos hx, w64 (by omega) (by omega)]
      rfl
    · rw [if_pos (by simpa using hx)] at ih
      refine Ev.step (fun k => ?_) (Ev.bind (f := fun k t => fuglemanref05_Without.l0 k a t l ((i + 1 : Nat) : Int)) (with_ref _ (rd l i) hlt) ih)
      simp only [fuglemanref05_Without.l0]
      rw [if_pos (by omega), if_pos (by omega), if_neg hx, w64 (by omega) (by omega)]
      rfl
theorem lst_len (s : Nat) : (lst s).length ≤ 32 := pre_le s 32
theorem lst_any (s : Nat) (q : Int → Bool) (j : Nat) (hj : j < 32) : ((lst s).any fun x => q x && decide (x = j)) = (s.testBit j && q j) := by
  rw [Bool.eq_iff_iff]
  simp only [List.any_eq_true, Bool.and_eq_true, decide_eq_true_eq]
  constructor
  · rintro ⟨x, h1, h2, rfl⟩
    obtain ⟨j', e, h3, h4⟩ := (pre_mem _ _ _).1 h1
    obtain rfl : j = j' := by omega
    exact ⟨h4, h2⟩
  · rintro ⟨h1, h2⟩
    exact ⟨j, (pre_mem _ _ _).2 ⟨j, rfl, hj, h1⟩, h2, rfl⟩
theorem without_ref (s : Nat) (a : Int) (hs : s < 2 ^ 32) : Ev (fun k => fuglemanref05_Without.f k s a) (wo s a : Int) := by
  have e : put (fun x => decide (x ≠ a)) 0 (lst s) = wo s a := ext32 (put_lt _ _ _ (by decide)) (wo_lt _ _) fun j hj => by
    rw [put_bit _ _ _ _ hj, lst_any _ _ _ hj, wo_bit _ _ _ hj, Nat.zero_testBit, Bool.false_or]
    congr 1
    by_cases h : a = j
    · simp [h]
    · simp [h]; omega
  rw [← e]
  exact Ev.bind (list_ref s hs) (without_loop a (lst s) (by have := lst_len s; omega) _ 0 rfl (by omega))

/-- The reference's searches. -/
theorem rturn_out (s : Nat) (a : Int) (h : ¬ (0 ≤ a ∧ a < 32)) : Ev (fun k => fuglemanref05_Turn.f k s a) (-1) := by
  have e : ∀ k, fuglemanref05_Turn.f k s a = fuglemanref05_Turn.j0 k s a true := fun k => by
    unfold fuglemanref05_Turn.f
    split
    · rfl
    · rw [decide_eq_true (by omega)]
  refine Ev.congr e (Ev.step (f := fun _ => some _) (fun k => ?_) (Ev.now _))
  simp only [fuglemanref05_Turn.j0]
  rfl
theorem rprev_out (s : Nat) (a : Int) (h : ¬ (0 ≤ a ∧ a < 32)) : Ev (fun k => fuglemanref05_Prev.f k s a) (-1) := by
  have e : ∀ k, fuglemanref05_Prev.f k s a = fuglemanref05_Prev.j0 k s a true := fun k => by
    unfold fuglemanref05_Prev.f
    split
    · rfl
    · rw [decide_eq_true (by omega)]
  refine Ev.congr e (Ev.step (f := fun _ => some _) (fun k => ?_) (Ev.now _))
  simp only [fuglemanref05_Prev.j0]
  rfl
/-- Found at 'i', or nowhere up to 32 (down: 31). -/
theorem turn_loop (s a : Nat) (hs : s < 2 ^ 32) (ha : a < 32) (r : Int) (hr : (∃ i, up s a i ∧ r = ((a + i) % 32 : Nat)) ∨ ((∀ i, 1 ≤ i → i ≤ 32 → s.testBit ((a + i) % 32) = false) ∧ r = -1)) : ∀ (d i : Nat), 33 - i = d → i ≤ 33 → 1 ≤ i → (∀ i', 1 ≤ i' → i' < i → s.testBit ((a + i') % 32) = false) → Ev (fun k => fuglemanref05_Turn.l0 k s a i) r
  | 0, i, hd, hi, h1, hno => by
    obtain rfl : i = 33 := by omega
    refine Ev.step (f := fun _ => some _) (fun k => ?_) (Ev.now _)
    simp only [fuglemanref05_Turn.l0]
    rw [if_neg (by omega)]
    rcases hr with ⟨i, ⟨g1, g2, g3, _⟩, _⟩ | ⟨_, rfl⟩
    · rw [hno i g1 (by omega)] at g3; cases g3
    · rfl
  | d + 1, i, hd, hi, h1, hno => by
    have em : Int.tmod (wrap64 ((a : Int) + (i : Int))) 32 = (((a + i) % 32 : Nat) : Int) := by
      rw [w64 (by omega) (by omega), Int.tmod_eq_emod_of_nonneg (by omega)]; omega
    refine Ev.step (f := fun k => (fuglemanref05_Has.f k s (((a + i) % 32 : Nat) : Int)).bind fun t159 => (if t159 = true then (some (((a + i) % 32 : Nat) : Int)) else (fuglemanref05_Turn.l0 k s a ((i + 1 : Nat) : Int)))) (fun k => ?_) (Ev.bind (has_ref s _ hs) ?_)
    · simp only [fuglemanref05_Turn.l0]
      rw [if_pos (by omega), em, w64 (by omega) (by omega)]
      rfl
    · rw [hasN _ _ (by omega)]
      cases hb : s.testBit ((a + i) % 32) with
      | true =>
        simp only [if_pos]
        rcases hr with ⟨i2, ⟨g1, g2, g3, g4⟩, rfl⟩ | ⟨g, _⟩
        · obtain rfl : i = i2 := by
            rcases Nat.lt_trichotomy i i2 with h | h | h
            · rw [g4 i h1 h] at hb; cases hb
            · exact h
            · rw [hno i2 g1 h] at g3; cases g3
          exact Ev.now _
        · rw [g i h1 (by omega)] at hb; cases hb
      | false =>
        simp only [Bool.false_eq_true, if_false]
        exact turn_loop s a hs ha r hr d (i + 1) (by omega) (by omega) (by omega) fun i' g1 g2 => by
          by_cases h : i' = i
          · subst h; exact hb
          · exact hno i' g1 (by omega)
theorem prev_loop (s a : Nat) (hs : s < 2 ^ 32) (ha : a < 32) (r : Int) (hr : (∃ i, dn s a i ∧ r = ((a + 32 - i) % 32 : Nat)) ∨ ((∀ i, 1 ≤ i → i < 32 → s.testBit ((a + 32 - i) % 32) = false) ∧ r = -1)) : ∀ (d i : Nat), 32 - i = d → i ≤ 32 → 1 ≤ i → (∀ i', 1 ≤ i' → i' < i → s.testBit ((a + 32 - i') % 32) = false) → Ev (fun k => fuglemanref05_Prev.l0 k s a i) r
  | 0, i, hd, hi, h1, hno => by
    obtain rfl : i = 32 := by omega
    refine Ev.step (f := fun _ => some _) (fun k => ?_) (Ev.now _)
    simp only [fuglemanref05_Prev.l0]
    rw [if_neg (by omega)]
    rcases hr with ⟨i, ⟨g1, g2, g3, _⟩, _⟩ | ⟨_, rfl⟩
    · rw [hno i g1 (by omega)] at g3; cases g3
    · rfl
  | d + 1, i, hd, hi, h1, hno => by
    have em : Int.tmod (wrap64 (wrap64 ((a : Int) + 32) - (i : Int))) 32 = (((a + 32 - i) % 32 : Nat) : Int) := by
      rw [w64 (x := (a : Int) + 32) (by omega) (by omega), w64 (by omega) (by omega), Int.tmod_eq_emod_of_nonneg (by omega)]; omega
    refine Ev.step (f := fun k => (fuglemanref05_Has.f k s (((a + 32 - i) % 32 : Nat) : Int)).bind fun t159 => (if t159 = true then (some (((a + 32 - i) % 32 : Nat) : Int)) else (fuglemanref05_Prev.l0 k s a ((i + 1 : Nat) : Int)))) (fun k => ?_) (Ev.bind (has_ref s _ hs) ?_)
    · simp only [fuglemanref05_Prev.l0]
      rw [if_pos (by omega), em, w64 (by omega) (by omega)]
      rfl
    · rw [hasN _ _ (by omega)]
      cases hb : s.testBit ((a + 32 - i) % 32) with
      | true =>
        simp only [if_pos]
        rcases hr with ⟨i2, ⟨g1, g2, g3, g4⟩, rfl⟩ | ⟨g, _⟩
        · obtain rfl : i = i2 := by
            rcases Nat.lt_trichotomy i i2 with h | h | h
            · rw [g4 i h1 h] at hb; cases hb
            · exact h
            · rw [hno i2 g1 h] at g3; cases g3
          exact Ev.now _
        · rw [g i h1 (by omega)] at hb; cases hb
      | false =>
        simp only [Bool.false_eq_true, if_false]
        exact prev_loop s a hs ha r hr d (i + 1) (by omega) (by omega) (by omega) fun i' g1 g2 => by
          by_cases h : i' = i
          · subst h; exact hb
          · exact hno i' g1 (by omega)
theorem rturn_in (s a : Nat) (hs : s < 2 ^ 32) (ha : a < 32) (r : Int) (hr : (∃ i, up s a i ∧ r = ((a + i) % 32 : Nat)) ∨ ((∀ i, 1 ≤ i → i ≤ 32 → s.testBit ((a + i) % 32) = false) ∧ r = -1)) : Ev (fun k => fuglemanref05_Turn.f k s a) r := by
  have e : ∀ k, fuglemanref05_Turn.f k s a = fuglemanref05_Turn.j0 k s a false := fun k => by
    unfold fuglemanref05_Turn.f
    rw [if_neg (by omega), decide_eq_false (by omega)]
  refine Ev.congr e (Ev.step (fun k => ?_) (turn_loop s a hs ha r hr 32 1 rfl (by omega) (by omega) (fun _ _ _ => by omega)))
  simp only [fuglemanref05_Turn.j0]
  rfl
theorem rprev_in (s a : Nat) (hs : s < 2 ^ 32) (ha : a < 32) (r : Int) (hr : (∃ i, dn s a i ∧ r = ((a + 32 - i) % 32 : Nat)) ∨ ((∀ i, 1 ≤ i → i < 32 → s.testBit ((a + 32 - i) % 32) = false) ∧ r = -1)) : Ev (fun k => fuglemanref05_Prev.f k s a) r := by
  have e : ∀ k, fuglemanref05_Prev.f k s a = fuglemanref05_Prev.j0 k s a false := fun k => by
    unfold fuglemanref05_Prev.f
    rw [if_neg (by omega), decide_eq_false (by omega)]
  refine Ev.congr e (Ev.step (fun k => ?_) (prev_loop s a hs ha r hr 31 1 rfl (by omega) (by omega) (fun _ _ _ => by omega)))
  simp only [fuglemanref05_Prev.j0]
  rfl

/-- Both sides: no one, and a number below 0; or one, and the same number. -/
def alike (p : Int × Bool) (r : Int) : Prop := (p = (0, false) ∧ r = -1) ∨ ∃ n : Nat, n < 32 ∧ p = ((n : Int), true) ∧ r = n
theorem turn_both (s : Nat) (a : Int) (hs : s < 2 ^ 32) : ∃ p r, members_Turn.f s a = some p ∧ Ev (fun k => fuglemanref05_Turn.f k s a) r ∧ alike p r := by
  by_cases h : 0 ≤ a ∧ a < 32
  · obtain ⟨n, rfl⟩ := Int.eq_ofNat_of_zero_le h.1
    rcases turn_f s n hs (by omega) with ⟨h0, e⟩ | ⟨i, hi, e⟩
    · exact ⟨_, _, e, rturn_in s n hs (by omega) (-1) (.inr ⟨fun _ _ _ => nbit s _ h0, rfl⟩), .inl ⟨rfl, rfl⟩⟩
    · exact ⟨_, _, e, rturn_in s n hs (by omega) _ (.inl ⟨i, hi, rfl⟩), .inr ⟨_, by omega, rfl, rfl⟩⟩
  · exact ⟨_, _, turn_out s a h, rturn_out s a h, .inl ⟨rfl, rfl⟩⟩
theorem next_both (s : Nat) (a : Int) (hs : s < 2 ^ 32) : ∃ p r, members_Next.f s a = some p ∧ Ev (fun k => fuglemanref05_Next.f k s a) r ∧ alike p r := by
  obtain ⟨p, r, h1, h2, h3⟩ := turn_both (wo s a) a (wo_lt _ _)
  exact ⟨p, r, (next_f s a).trans h1, Ev.bind (without_ref s a hs) (Ev.bind h2 (Ev.now _)), h3⟩
theorem prev_both (s : Nat) (a : Int) (hs : s < 2 ^ 32) : ∃ p r, members_Prev.f s a = some p ∧ Ev (fun k => fuglemanref05_Prev.f k s a) r ∧ alike p r := by
  by_cases h : 0 ≤ a ∧ a < 32
  · obtain ⟨n, rfl⟩ := Int.eq_ofNat_of_zero_le h.1
    rcases prev_f s n (by omega) with ⟨h0, e⟩ | ⟨i, hi, e⟩
    · refine ⟨_, _, e, rprev_in s n hs (by omega) (-1) (.inr ⟨fun i h1 h2 => ?_, rfl⟩), .inl ⟨rfl, rfl⟩⟩
      have := wo_bit s (n : Int) ((n + 32 - i) % 32) (by omega)
      rw [nbit _ _ h0, decide_eq_false (by omega)] at this
      simpa using this.symm
    · exact ⟨_, _, e, rprev_in s n hs (by omega) _ (.inl ⟨i, hi, rfl⟩), .inr ⟨_, by omega, rfl, rfl⟩⟩
  · exact ⟨_, _, prev_out s a h, rprev_out s a h, .inl ⟨rfl, rfl⟩⟩
theorem same_f (p : Int × Bool) (r : Int) (h : alike p r) : fuglemanlaw05_same.f p.1 p.2 r = some true := by
  rcases h with ⟨rfl, rfl⟩ | ⟨n, h, rfl, rfl⟩
  · decide
  · unfold fuglemanlaw05_same.f
    rw [decide_eq_true (by omega), if_pos (by rfl)]
    have : mx (n : Int) 0 = n := by unfold mx; split <;> omega
    rw [this]
    simp
theorem wf32 {x : Int} (h : (Lit.int .u32 x).wf = true) : ∃ n : Nat, x = n ∧ n < 2 ^ 32 := by
  simp [Lit.wf] at h
  have e : IntKind.u32.min = 0 := by decide
  have e2 : IntKind.u32.max = 4294967295 := by decide
  rw [e, e2] at h
  obtain ⟨n, rfl⟩ := Int.eq_ofNat_of_zero_le h.1
  exact ⟨n, rfl, by omega⟩
theorem next_law (s : Nat) (a : Int) (hs : s < 2 ^ 32) : Ev (fun k => fuglemanlaw05_MembersNext.f k s a) true := by
  obtain ⟨p1, r1, e1, f1, g1⟩ := next_both s a hs
  obtain ⟨p2, r2, e2, f2, g2⟩ := prev_both s a hs
  obtain ⟨p3, r3, e3, f3, g3⟩ := turn_both s a hs
  unfold fuglemanlaw05_MembersNext.f
  refine Ev.bind awake_ev ?_
  rw [e1, e2, e3]
  simp only [if_pos, Option.bind_some]
  refine Ev.bind f1 ?_
  rw [same_f _ _ g1]
  simp only [if_pos, Option.bind_some]
  refine Ev.bind f2 ?_
  rw [same_f _ _ g2]
  simp only [if_pos, Option.bind_some]
  refine Ev.bind f3 ?_
  rw [same_f _ _ g3]
  exact Ev.now _
end Go.Proofs.YtfhiggefmcklaaaDoor.Plain

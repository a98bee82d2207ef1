/- Plain facts on sets of addresses: those between two, a set behind a token's pass, an address' gap. No condition but those that each states. -/
import Derived.Test.YtfhiggefmcklaaaDoorPlain2
import Derived.Test.YtfhiggefmcklaaaDoorOwnx
namespace Go.Proofs.YtfhiggefmcklaaaDoor.Plain
open Go.RowKit Go.Proofs.YtfhiggefmcklaaaDoor.Own Go.Proofs.YtfhiggefmcklaaaDoorW.PrintWords Go.Proofs.YtfhiggefmcklaaaDoorW.PrintLast Go.Proofs.YtfhiggefmcklaaaDoorW.PrintMore

/-- How far an address is, going up; an address itself last. -/
def dist (a j : Nat) : Nat := if a < j then j - a else j + 32 - a
theorem abv_bit (a j : Nat) (hj : j < 32) : (abv a).testBit j = decide (a < j) := by
  unfold abv
  rw [Nat.testBit_xor, Nat.testBit_two_pow_sub_one, low_bit, decide_eq_true hj]
  by_cases h : a < j
  · rw [decide_eq_true h, decide_eq_false (by omega)]; rfl
  · rw [decide_eq_false h, decide_eq_true (by omega)]; rfl
theorem btw_bit (a b j : Nat) (ha : a < 32) (hb : b < 32) (hj : j < 32) : (btw a b).testBit j = decide (dist a j < dist a b) := by
  unfold btw dist
  split
  · rw [Nat.testBit_and, abv_bit a j hj, Nat.testBit_two_pow_sub_one, ← Bool.decide_and]
    congr 1
    simp only [eq_iff_iff]
    split <;> omega
  · rw [Nat.testBit_or, abv_bit a j hj, Nat.testBit_two_pow_sub_one, ← Bool.decide_or]
    congr 1
    simp only [eq_iff_iff]
    split <;> omega
theorem btw_lt (a b : Nat) (ha : a < 32) (hb : b < 32) : btw a b < 2 ^ 32 := by
  have hp : 2 ^ b < 2 ^ 32 := Nat.pow_lt_pow_right (by decide) hb
  have h := abv_lt a ha
  unfold btw
  split
  · exact Nat.lt_of_le_of_lt Nat.and_le_left h
  · exact Nat.or_lt_two_pow h (by omega)
theorem between_f (a b : Nat) (ha : a < 32) (hb : b < 32) : members_Between.f a b = some (btw a b : Int) := by
  unfold members_Between.f
  rw [if_pos (by omega), Int.toNat_natCast, Int.toNat_natCast]
theorem between_out (a b : Int) (h : ¬ (0 ≤ a ∧ a < 32 ∧ 0 ≤ b ∧ b < 32)) : members_Between.f a b = some 0 := by
  unfold members_Between.f
  rw [if_neg h]
theorem between_loop (a b : Nat) (ha : a < 32) (hb : b < 32) : ∀ (d t o : Nat), dist a b - t = d → 1 ≤ t → t ≤ dist a b → o < 2 ^ 32 → (∀ j, j < 32 → o.testBit j = decide (dist a j < t)) → Ev (fun k => fuglemanref05_Between.l0 k a b o (((a + t) % 32 : Nat) : Int)) (btw a b : Int)
  | 0, t, o, hd, h1, ht, ho, hbit => by
    obtain rfl : t = dist a b := by omega
    have e : o = btw a b := ext32 ho (btw_lt a b ha hb) fun j hj => by rw [hbit j hj, btw_bit a b j ha hb hj]
    refine Ev.step (f := fun _ => some _) (fun k => ?_) (Ev.now _)
    simp only [fuglemanref05_Between.l0]
    rw [if_pos (by unfold dist; split <;> omega), e]
  | d + 1, t, o, hd, h1, ht, ho, hbit => by
    have ht' : t < dist a b := by omega
    have hdb : dist a b ≤ 32 := by unfold dist; split <;> omega
    have hn : (a + t) % 32 ≠ b := by unfold dist at ht'; split at ht' <;> omega
    have hx : dist a ((a + t) % 32) = t := by unfold dist; split <;> omega
    have ih := between_loop a b ha hb d (t + 1) (wth o (((a + t) % 32 : Nat) : Int)) (by omega) (by omega) (by omega) (wth_lt _ ho) fun j hj => by
      rw [wth_bit _ _ _ hj, hbit j hj, ← Bool.decide_or]
      congr 1
      simp only [eq_iff_iff]
      constructor
      · rintro (h | h)
        · omega
        · have : (a + t) % 32 = j := by omega
          rw [← this, hx]; omega
      · intro h
        by_cases h2 : dist a j < t
        · exact .inl h2
        · right
          have h3 : dist a j = t := by omega
          unfold dist at h3
          split at h3 <;> omega
    refine Ev.step (f := fun k => (fuglemanref05_With.f k o (((a + t) % 32 : Nat) : Int)).bind fun t235 => (fuglemanref05_Between.l0 k a b t235 (((a + (t + 1)) % 32 : Nat) : Int))) (fun k => ?_) (Ev.bind (with_ref o _ ho) ih)
    simp only [fuglemanref05_Between.l0]
    have em : Int.tmod (wrap64 ((((a + t) % 32 : Nat) : Int) + 1)) 32 = (((a + (t + 1)) % 32 : Nat) : Int) := by
      rw [w64 (by omega) (by omega), Int.tmod_eq_emod_of_nonneg (by omega)]; omega
    rw [if_neg (by omega), if_neg (by omega), em]
theorem rbetween_in (a b : Nat) (ha : a < 32) (hb : b < 32) : Ev (fun k => fuglemanref05_Between.f k a b) (btw a b : Int) := by
  have e : ∀ k, fuglemanref05_Between.f k a b = fuglemanref05_Between.j0 k a b false := fun k => by
    unfold fuglemanref05_Between.f
    rw [if_neg (by omega), if_neg (by omega), if_neg (by omega), decide_eq_false (by omega)]
  have hd : 1 ≤ dist a b := by unfold dist; split <;> omega
  refine Ev.congr e (Ev.step (fun k => ?_) (between_loop a b ha hb _ 1 0 rfl (by omega) hd (by decide) fun j hj => ?_))
  · simp only [fuglemanref05_Between.j0]
    have em : Int.tmod (wrap64 ((a : Int) + 1)) 32 = (((a + 1) % 32 : Nat) : Int) := by
      rw [w64 (by omega) (by omega), Int.tmod_eq_emod_of_nonneg (by omega)]; omega
    rw [em]
    rfl
  · rw [Nat.zero_testBit, decide_eq_false]
    unfold dist; split <;> omega
theorem rbetween_out (a b : Int) (h : ¬ (0 ≤ a ∧ a < 32 ∧ 0 ≤ b ∧ b < 32)) : Ev (fun k => fuglemanref05_Between.f k a b) 0 := by
  have e : ∀ k, fuglemanref05_Between.f k a b = fuglemanref05_Between.j0 k a b true := fun k => by
    unfold fuglemanref05_Between.f
    split
    · rfl
    · split
      · rfl
      · split
        · rfl
        · rw [decide_eq_true (by omega)]
  refine Ev.congr e (Ev.step (f := fun _ => some _) (fun k => ?_) (Ev.now _))
  simp only [fuglemanref05_Between.j0]
  rfl
/-- The range, of both addresses or of neither. -/
theorem between_both (a b : Int) : ∃ r : Int, members_Between.f a b = some r ∧ Ev (fun k => fuglemanref05_Between.f k a b) r := by
  by_cases h : 0 ≤ a ∧ a < 32 ∧ 0 ≤ b ∧ b < 32
  · obtain ⟨n, rfl⟩ := Int.eq_ofNat_of_zero_le h.1
    obtain ⟨m, rfl⟩ := Int.eq_ofNat_of_zero_le h.2.2.1
    exact ⟨_, between_f n m (by omega) (by omega), rbetween_in n m (by omega) (by omega)⟩
  · exact ⟨_, between_out a b h, rbetween_out a b h⟩

/-- A list's members taken out one by one. -/
def del (s : Nat) (l : List Int) : Nat := l.foldl wo s
theorem del_lt : ∀ (l : List Int) (s : Nat), s < 2 ^ 32 → del s l < 2 ^ 32
  | [], _, h => h
  | x :: l, s, _ => del_lt l (wo s x) (wo_lt _ _)
theorem del_bit : ∀ (l : List Int) (s j : Nat), j < 32 → (del s l).testBit j = (s.testBit j && !(l.any fun x => decide (x = j)))
  | [], s, j, _ => by simp [del]
  | x :: l, s, j, hj => by
    show (del (wo s x) l).testBit j = _
    rw [del_bit l _ j hj, List.any_cons, wo_bit _ _ _ hj, Bool.not_or, Bool.and_assoc]
theorem take_del (s : Nat) (l : List Int) (i : Nat) (hi : i < l.length) : del s (l.take (i + 1)) = wo (del s (l.take i)) (rd l i) := by
  unfold del
  rw [List.take_succ_eq_append_getElem hi, List.foldl_append, rd_nat]
  have : l.getD i 0 = l[i] := by simp [List.getD, hi]
  rw [this]
  rfl
theorem pass_loop (s : Nat) (a b : Int) (hs : s < 2 ^ 32) (l : List Int) (hl : l.length ≤ 1000) : ∀ (d i : Nat), l.length - i = d → i ≤ l.length → Ev (fun k => fuglemanref05_Pass.l0 k (del s (l.take i) : Nat) a b l i) (wth (wth (del s l) a) b : Nat)
  | 0, i, hd, hi => by
    obtain rfl : i = l.length := by omega
    have hlt := del_lt l s hs
    refine Ev.step (f := fun k => (fuglemanref05_With.f k (del s l : Nat) a).bind fun t247 => ((fuglemanref05_With.f k t247 b).bind fun t248 => (some t248))) (fun k => ?_) (Ev.bind (with_ref _ a hlt) (Ev.bind (with_ref _ b (wth_lt _ hlt)) (Ev.now _)))
    simp only [fuglemanref05_Pass.l0]
    rw [if_neg (by omega), List.take_length]
  | d + 1, i, hd, hi => by
    have ih := pass_loop s a b hs l hl d (i + 1) (by omega) (by omega)
    rw [take_del _ _ _ (by omega)] at ih
    refine Ev.step (fun k => ?_) (Ev.bind (f := fun k t => fuglemanref05_Pass.l0 k t a b l ((i + 1 : Nat) : Int)) (without_ref _ (rd l i) (del_lt (l.take i) s hs)) ih)
    simp only [fuglemanref05_Pass.l0]
    rw [if_pos (by omega), if_pos (by omega), w64 (by omega) (by omega)]
    rfl
theorem lst_any' (s j : Nat) (hj : j < 32) : ((lst s).any fun x => decide (x = j)) = s.testBit j := by
  have := lst_any s (fun _ => true) j hj
  simpa using this
theorem pass_both (s : Nat) (a b : Int) (hs : s < 2 ^ 32) : ∃ r : Int, Ev (fun k => members_Pass.f k s a b) r ∧ Ev (fun k => fuglemanref05_Pass.f k s a b) r := by
  by_cases h : 0 ≤ a ∧ a < 32 ∧ 0 ≤ b ∧ b < 32
  · obtain ⟨n, rfl⟩ := Int.eq_ofNat_of_zero_le h.1
    obtain ⟨m, rfl⟩ := Int.eq_ofNat_of_zero_le h.2.2.1
    have hn : n < 32 := by omega
    have hm : m < 32 := by omega
    have hbl := btw_lt n m hn hm
    have hor : ann s (btw n m) ||| on n < 2 ^ 32 := Nat.or_lt_two_pow (ann_lt _ _) (on_lt _)
    have e : wth (wth (del s (lst (btw n m))) n) m = (ann s (btw n m) ||| on n) ||| on m := ext32 (wth_lt _ (wth_lt _ (del_lt _ _ hs))) (Nat.or_lt_two_pow hor (on_lt _)) fun j hj => by
      rw [wth_bit _ _ _ hj, wth_bit _ _ _ hj, del_bit _ _ _ hj, lst_any' _ _ hj, Nat.testBit_or, Nat.testBit_or, on_bit, on_bit, ann_bit _ _ _ hj]
      simp [hj]
    refine ⟨_, ?_, Ev.congr (f := fun k => fuglemanref05_Pass.j0 k s n m false) (fun k => ?_) (Ev.step (f := fun k => ((fuglemanref05_Between.f k n m).bind fun t241 => ((fuglemanref05_List.f k t241).bind fun t242 => (fuglemanref05_Pass.l0 k s n m t242 0)))) (fun k => ?_) (Ev.bind (rbetween_in n m hn hm) (Ev.bind (list_ref _ hbl) (pass_loop s n m hs _ (by have := lst_len (btw n m); omega) _ 0 rfl (by omega)))))⟩
    · rw [e]
      refine Ev.congr (f := fun k => members_Pass.j0 k s n m false) (fun k => ?_) (Ev.step (f := fun _ => some _) (fun k => ?_) (Ev.now _))
      · unfold members_Pass.f
        rw [is_f, is_f]
        simp only [Option.bind_some]
        rw [if_pos (decide_eq_true (by omega)), decide_eq_true (by omega)]
        rfl
      · simp only [members_Pass.j0]
        rw [if_neg (by decide), between_f n m hn hm, one_f, one_f]
        simp only [Option.bind_some]
        rw [ann_f, or_f _ _ (ann_lt _ _) (on_lt _), or_f _ _ hor (on_lt _)]
    · unfold fuglemanref05_Pass.f
      rw [if_neg (by omega), if_neg (by omega), if_neg (by omega), decide_eq_false (by omega)]
    · simp only [fuglemanref05_Pass.j0]
      rfl
  · refine ⟨(s : Int), ?_, ?_⟩
    · refine Ev.congr (f := fun k => members_Pass.j0 k s a b true) (fun k => ?_) (Ev.step (f := fun _ => some _) (fun k => ?_) (Ev.now _))
      · unfold members_Pass.f
        rw [is_f, is_f]
        simp only [Option.bind_some]
        by_cases h1 : 0 ≤ a ∧ a < 32
        · rw [if_pos (decide_eq_true h1), decide_eq_false (by omega)]
          rfl
        · rw [if_neg (by simpa using h1)]
      · simp only [members_Pass.j0]
        rfl
    · refine Ev.congr (f := fun k => fuglemanref05_Pass.j0 k s a b true) (fun k => ?_) (Ev.step (f := fun _ => some _) (fun k => ?_) (Ev.now _))
      · unfold fuglemanref05_Pass.f
        split
        · rfl
        · split
          · rfl
          · split
            · rfl
            · rw [decide_eq_true (by omega)]
      · simp only [fuglemanref05_Pass.j0]
        rfl

/-- The gap. -/
theorem rgap_loop (top : Int) (l : List Int) (hl : l.length ≤ 1000) : ∀ (d i : Nat), l.length - i = d → i ≤ l.length → Ev (fun k => fuglemanref05_Gap.l0 k top l (put (fun x => decide (x ≤ top)) 0 (l.take i) : Nat) i) (put (fun x => decide (x ≤ top)) 0 l : Nat)
  | 0, i, hd, hi => by
    obtain rfl : i = l.length := by omega
    refine Ev.step (f := fun _ => some _) (fun k => ?_) (Ev.now _)
    simp only [fuglemanref05_Gap.l0]
    rw [if_neg (by omega), List.take_length]
  | d + 1, i, hd, hi => by
    have ih := rgap_loop top l hl d (i + 1) (by omega) (by omega)
    rw [take_put _ _ _ _ (by omega)] at ih
    have hlt := put_lt (fun x => decide (x ≤ top)) (l.take i) 0 (by decide)
    by_cases hx : rd l i ≤ top
    · rw [if_pos (by simpa using hx)] at ih
      refine Ev.step (fun k => ?_) (Ev.bind (f := fun k t => fuglemanref05_Gap.l0 k top l t ((i + 1 : Nat) : Int)) (with_ref _ (rd l i) hlt) ih)
      simp only [fuglemanref05_Gap.l0]
      rw [if_pos (by omega), if_pos (by omega), if_pos hx, w64 (by omega) (by omega)]
      rfl
    · rw [if_neg (by simpa using hx)] at ih
      refine Ev.step (fun k => ?_) ih
      simp only [fuglemanref05_Gap.l0]
      rw [if_pos (by omega), if_pos (by omega), if_neg hx, w64 (by omega) (by omega)]
      rfl
def gapv (a b : Nat) (top : Int) : Nat := put (fun x => decide (x ≤ top)) 0 (lst (btw a b))
theorem gapv_bit (a b : Nat) (top : Int) (j : Nat) (hj : j < 32) : (gapv a b top).testBit j = ((btw a b).testBit j && decide ((j : Int) ≤ top)) := by
  unfold gapv
  rw [put_bit _ _ _ _ hj, lst_any _ _ _ hj, Nat.zero_testBit, Bool.false_or]
theorem gapv_lt (a b : Nat) (top : Int) : gapv a b top < 2 ^ 32 := put_lt _ _ _ (by decide)
theorem rgap_end (a b : Nat) (top : Int) (ha : a < 32) (hb : b < 32) : Ev (fun k => fuglemanref05_Gap.j1 k a top b) (gapv a b top : Int) := by
  refine Ev.step (f := fun k => (fuglemanref05_Between.f k a b).bind fun t250 => ((fuglemanref05_List.f k t250).bind fun t251 => (fuglemanref05_Gap.l0 k top t251 0 0))) (fun k => ?_) (Ev.bind (rbetween_in a b ha hb) (Ev.bind (list_ref _ (btw_lt a b ha hb)) (rgap_loop top _ (by have := lst_len (btw a b); omega) _ 0 rfl (by omega))))
  simp only [fuglemanref05_Gap.j1]
theorem gap_end (a b : Nat) (top : Int) (ha : a < 32) (hb : b < 32) (ht : 0 ≤ top) : Ev (fun k => members_Gap.j1 k a top b) (gapv a b top : Int) := by
  have hbl := btw_lt a b ha hb
  refine Ev.step (f := fun _ => some _) (fun k => ?_) (Ev.now _)
  simp only [members_Gap.j1]
  rw [is_f]
  simp only [Option.bind_some]
  obtain ⟨n, rfl⟩ := Int.eq_ofNat_of_zero_le ht
  by_cases h : n < 32
  · have hp : 2 ^ n < 2 ^ 32 := Nat.pow_lt_pow_right (by decide) h
    have ho : on (n : Int) = 2 ^ n := by unfold on; rw [if_pos (by omega), Int.toNat_natCast]
    rw [if_pos (decide_eq_true (by omega)), below_f n h, one_f, between_f a b ha hb, ho]
    simp only [Option.bind_some]
    have hlow : (2 ^ n - 1 ||| 2 ^ n : Nat) < 2 ^ 32 := Nat.or_lt_two_pow (by omega) hp
    rw [or_f _ _ (by omega) hp, and_f _ _ hbl hlow]
    congr 2
    refine ext32 (Nat.lt_of_le_of_lt Nat.and_le_left hbl) (gapv_lt _ _ _) fun j hj => ?_
    rw [Nat.testBit_and, low_bit, gapv_bit _ _ _ _ hj]
    congr 1
    by_cases h1 : j ≤ n
    · rw [decide_eq_true h1, decide_eq_true (by omega)]
    · rw [decide_eq_false h1, decide_eq_false (by omega)]
  · rw [if_neg (by simp; omega), between_f a b ha hb]
    simp only [Option.bind_some]
    rw [show (4294967295 : Int) = ((4294967295 : Nat) : Int) from rfl, and_f _ _ hbl (by decide)]
    congr 2
    refine ext32 (Nat.lt_of_le_of_lt Nat.and_le_left hbl) (gapv_lt _ _ _) fun j hj => ?_
    rw [Nat.testBit_and, show (4294967295 : Nat) = 2 ^ 32 - 1 from rfl, Nat.testBit_two_pow_sub_one, gapv_bit _ _ _ _ hj]
    congr 1
    rw [decide_eq_true hj, decide_eq_true (by omega)]
theorem gap_both (s : Nat) (a top : Int) (hs : s < 2 ^ 32) : ∃ r : Int, Ev (fun k => members_Gap.f k s a top) r ∧ Ev (fun k => fuglemanref05_Gap.f k s a top) r := by
  have pstop : ∀ a', Ev (fun k => members_Gap.j0 k s a' top true) 0 := fun a' => by
    refine Ev.step (f := fun _ => some _) (fun k => ?_) (Ev.now _)
    simp only [members_Gap.j0]
    rfl
  by_cases h : 0 ≤ a ∧ a < 32
  · obtain ⟨n, rfl⟩ := Int.eq_ofNat_of_zero_le h.1
    have hn : n < 32 := by omega
    obtain ⟨p, r, e1, e2, e3⟩ := next_both s n hs
    obtain ⟨m, hm, hp, hr⟩ : ∃ m : Nat, m < 32 ∧ (∀ k, (if p.2 = true then (members_Gap.j1 k n top p.1) else (members_Gap.j1 k n top n)) = members_Gap.j1 k n top m) ∧ (∀ k, (if r < 0 then (fuglemanref05_Gap.j1 k n top n) else (fuglemanref05_Gap.j1 k n top r)) = fuglemanref05_Gap.j1 k n top m) := by
      rcases e3 with ⟨rfl, rfl⟩ | ⟨m, hm, rfl, rfl⟩
      · exact ⟨n, hn, fun k => if_neg (by decide), fun k => if_pos (by decide)⟩
      · exact ⟨m, hm, fun k => if_pos rfl, fun k => if_neg (by omega)⟩
    have hR : Ev (fun k => fuglemanref05_Gap.f k s n top) (gapv n m top : Int) := by
      refine Ev.congr (f := fun k => fuglemanref05_Gap.j0 k s n top false) (fun k => ?_) (Ev.step (f := fun k => (fuglemanref05_Next.f k s n).bind fun t249 => (if t249 < 0 then (fuglemanref05_Gap.j1 k n top n) else (fuglemanref05_Gap.j1 k n top t249))) (fun k => ?_) (Ev.bind e2 (Ev.congr hr (rgap_end n m top hn hm))))
      · unfold fuglemanref05_Gap.f
        rw [if_neg (by omega), decide_eq_false (by omega)]
      · simp only [fuglemanref05_Gap.j0]
        rfl
    refine ⟨_, ?_, hR⟩
    have eP : ∀ k, members_Gap.f k s n top = members_Gap.j0 k s n top (decide (top < 0)) := fun k => by
      unfold members_Gap.f
      rw [is_f]
      simp only [Option.bind_some]
      rw [if_pos (decide_eq_true (by omega))]
    refine Ev.congr eP ?_
    by_cases ht : top < 0
    · rw [decide_eq_true ht]
      have e0 : gapv n m top = 0 := ext32 (gapv_lt _ _ _) (by decide) fun j hj => by
        rw [gapv_bit _ _ _ _ hj, Nat.zero_testBit, decide_eq_false (by omega), Bool.and_false]
      rw [e0]
      exact pstop _
    · rw [decide_eq_false ht]
      refine Ev.step (fun k => ?_) (Ev.congr hp (gap_end n m top hn hm (by omega)))
      simp only [members_Gap.j0]
      rw [e1]
      rfl
  · refine ⟨0, ?_, ?_⟩
    · refine Ev.congr (fun k => ?_) (pstop a)
      unfold members_Gap.f
      rw [is_f]
      simp only [Option.bind_some]
      rw [if_neg (by simpa using h)]
    · refine Ev.congr (f := fun k => fuglemanref05_Gap.j0 k s a top true) (fun k => ?_) (Ev.step (f := fun _ => some _) (fun k => ?_) (Ev.now _))
      · unfold fuglemanref05_Gap.f
        split
        · rfl
        · rw [decide_eq_true (by omega)]
      · simp only [fuglemanref05_Gap.j0]
        rfl
theorem between_law (s : Nat) (a b : Int) (hs : s < 2 ^ 32) : Ev (fun k => fuglemanlaw05_MembersBetween.f k s a b) true := by
  obtain ⟨r1, e1, f1⟩ := between_both a b
  obtain ⟨r2, e2, f2⟩ := pass_both s a b hs
  obtain ⟨r3, e3, f3⟩ := gap_both s a b hs
  unfold fuglemanlaw05_MembersBetween.f
  refine Ev.bind awake_ev (Ev.congr (fun k => if_pos rfl) ?_)
  rw [e1]
  simp only [Option.bind_some]
  refine Ev.bind f1 (Ev.congr (fun k => if_pos rfl) ?_)
  refine Ev.bind e2 (Ev.bind f2 (Ev.congr (fun k => if_pos rfl) ?_))
  refine Ev.bind e3 (Ev.bind f3 (Ev.congr (fun k => ?_) (Ev.now _)))
  simp
end Go.Proofs.YtfhiggefmcklaaaDoor.Plain

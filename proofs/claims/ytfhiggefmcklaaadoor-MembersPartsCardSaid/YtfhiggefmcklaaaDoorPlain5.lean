/- Plain facts on sets of addresses: who goes from next to next comes by all, each once. No condition but those that each states. -/
import Derived.Test.YtfhiggefmcklaaaDoorPlain3
import Derived.Test.YtfhiggefmcklaaaDoorPlain4
namespace Go.Proofs.YtfhiggefmcklaaaDoor.Plain
open Go.RowKit Go.Proofs.YtfhiggefmcklaaaDoor.Own Go.Proofs.YtfhiggefmcklaaaDoorW.PrintWords Go.Proofs.YtfhiggefmcklaaaDoorW.PrintLast Go.Proofs.YtfhiggefmcklaaaDoorW.PrintMore

def mem (s : Nat) : List Nat := (List.range 32).filter s.testBit
def num (s : Nat) : Nat := (mem s).length
def at_ (s p : Nat) : Nat := (mem s).getD p 0
theorem lst_mem (s : Nat) : lst s = (mem s).map fun (j : Nat) => (j : Int) := rfl
theorem len_mem (s : Nat) : (lst s).length = num s := by rw [lst_mem, List.length_map]; rfl
theorem rd_lst (s p : Nat) (h : p < num s) : rd (lst s) p = (at_ s p : Int) := by
  rw [rd_get _ _ (by rw [len_mem]; exact h)]
  simp only [lst_mem, List.getElem_map, at_, List.getD]
  rw [List.getElem?_eq_getElem h]
  rfl
theorem at_get (s p : Nat) (h : p < num s) : at_ s p = (mem s)[p]'h := by
  simp only [at_, List.getD]
  rw [List.getElem?_eq_getElem h]
  rfl
theorem at_in (s p : Nat) (h : p < num s) : at_ s p < 32 ∧ s.testBit (at_ s p) = true := by
  rw [at_get s p h]
  have := List.mem_filter.1 (List.getElem_mem (l := mem s) h)
  exact ⟨List.mem_range.1 this.1, this.2⟩
theorem at_lt (s p q : Nat) (hpq : p < q) (h : q < num s) : at_ s p < at_ s q := by
  rw [at_get s q h, at_get s p (by omega)]
  have hp : (mem s).Pairwise (· < ·) := List.Pairwise.filter _ List.pairwise_lt_range
  exact List.pairwise_iff_getElem.1 hp p q _ _ hpq
theorem at_of (s j : Nat) (hj : j < 32) (h : s.testBit j = true) : ∃ p, p < num s ∧ at_ s p = j := by
  have : j ∈ mem s := List.mem_filter.2 ⟨List.mem_range.2 hj, h⟩
  obtain ⟨p, hp, e⟩ := List.mem_iff_getElem.1 this
  exact ⟨p, hp, (at_get s p hp).trans e⟩
theorem at_inj (s p q : Nat) (hp : p < num s) (hq : q < num s) (h : at_ s p = at_ s q) : p = q := by
  rcases Nat.lt_trichotomy p q with h1 | h1 | h1
  · have := at_lt s p q h1 hq; omega
  · exact h1
  · have := at_lt s q p h1 hp; omega
def nx (n p : Nat) : Nat := if p + 1 = n then 0 else p + 1
/-- Nobody stands between one and the next. -/
theorem gapless (s p : Nat) (hp : p < num s) (j : Nat) (hj : j < 32) (hb : s.testBit j = true) : dist (at_ s p) (at_ s (nx (num s) p)) ≤ dist (at_ s p) j := by
  obtain ⟨q, hq, rfl⟩ := at_of s j hj hb
  have h0 := (at_in s p hp).1
  unfold nx
  split
  · have h1 : at_ s q ≤ at_ s p := by
      by_cases h : q = p
      · rw [h]; exact Nat.le_refl _
      · exact Nat.le_of_lt (at_lt s q p (by omega) hp)
    have h2 : at_ s 0 ≤ at_ s q := by
      by_cases h : q = 0
      · rw [h]; exact Nat.le_refl _
      · exact Nat.le_of_lt (at_lt s 0 q (by omega) hq)
    unfold dist
    split <;> split <;> omega
  · have h3 := at_lt s p (p + 1) (by omega) (by omega)
    have h4 := (at_in s (p + 1) (by omega)).1
    by_cases h : q ≤ p
    · have h1 : at_ s q ≤ at_ s p := by
        by_cases h : q = p
        · rw [h]; exact Nat.le_refl _
        · exact Nat.le_of_lt (at_lt s q p (by omega) hp)
      unfold dist
      split <;> split <;> omega
    · have h2 : at_ s (p + 1) ≤ at_ s q := by
        by_cases h : q = p + 1
        · rw [h]; exact Nat.le_refl _
        · exact Nat.le_of_lt (at_lt s (p + 1) q (by omega) hq)
      unfold dist
      split <;> split <;> omega
theorem nx_in (n p : Nat) (h : p < n) : nx n p < n := by unfold nx; split <;> omega
theorem nx_ne (n p : Nat) (_ : p < n) (h2 : 2 ≤ n) : nx n p ≠ p := by unfold nx; split <;> omega
theorem round_next (s p : Nat) (hp : p < num s) (h2 : 2 ≤ num s) : members_Next.f s (at_ s p) = some ((at_ s (nx (num s) p) : Int), true) := by
  have ha := (at_in s p hp).1
  have hc := at_in s (nx (num s) p) (nx_in _ _ hp)
  have hne : at_ s (nx (num s) p) ≠ at_ s p := fun h => nx_ne _ _ hp h2 (at_inj s _ _ (nx_in _ _ hp) hp h)
  have hg := gapless s p hp
  generalize at_ s (nx (num s) p) = c at *
  generalize at_ s p = a at *
  have hwc : (wo s a).testBit c = true := by rw [wo_bit _ _ _ hc.1, hc.2, decide_eq_false (by omega)]; rfl
  rw [next_f]
  rcases turn_f (wo s a) a (wo_lt _ _) ha with ⟨h0, _⟩ | ⟨i, ⟨g1, g2, g3, g4⟩, e⟩
  · rw [nbit _ _ h0] at hwc; cases hwc
  · rw [e]
    congr 3
    rw [wo_bit _ _ _ (by omega), Bool.and_eq_true] at g3
    have h1 := hg _ (by omega) g3.1
    have h3 : ¬ (a : Int) = ((a + i) % 32 : Nat) := by simpa using g3.2
    have hd : dist a ((a + i) % 32) = i := by unfold dist; split <;> omega
    rw [hd] at h1
    have hdc : (a + dist a c) % 32 = c ∧ 1 ≤ dist a c := by unfold dist; split <;> omega
    by_cases h4 : dist a c = i
    · rw [← h4]; exact hdc.1
    · have := g4 (dist a c) hdc.2 (by omega)
      rw [hdc.1, hwc] at this
      cases this
theorem round_prev (s p : Nat) (hp : p < num s) (h2 : 2 ≤ num s) : members_Prev.f s (at_ s (nx (num s) p)) = some ((at_ s p : Int), true) := by
  have ha := at_in s p hp
  have hc := at_in s (nx (num s) p) (nx_in _ _ hp)
  have hne : at_ s (nx (num s) p) ≠ at_ s p := fun h => nx_ne _ _ hp h2 (at_inj s _ _ (nx_in _ _ hp) hp h)
  have hg := gapless s p hp
  generalize at_ s (nx (num s) p) = c at *
  generalize at_ s p = a at *
  have hwa : (wo s c).testBit a = true := by rw [wo_bit _ _ _ ha.1, ha.2, decide_eq_false (by omega)]; rfl
  rcases prev_f s c hc.1 with ⟨h0, _⟩ | ⟨i, ⟨g1, g2, g3, g4⟩, e⟩
  · rw [nbit _ _ h0] at hwa; cases hwa
  · rw [e]
    congr 3
    have h1 := hg _ (by omega) g3
    have hdc : (c + 32 - dist a c) % 32 = a ∧ 1 ≤ dist a c ∧ dist a c < 32 := by unfold dist; split <;> omega
    rcases Nat.lt_trichotomy i (dist a c) with h | h | h
    · exfalso
      have : dist a ((c + 32 - i) % 32) < dist a c := by
        unfold dist at h ⊢
        split at h <;> split <;> omega
      omega
    · rw [h]; exact hdc.1
    · have := g4 (dist a c) hdc.2.1 h
      rw [hdc.1, ha.2] at this
      cases this
theorem round_btw (s p : Nat) (hs : s < 2 ^ 32) (hp : p < num s) : members_Between.f (at_ s p) (at_ s (nx (num s) p)) = some (btw (at_ s p) (at_ s (nx (num s) p)) : Int) ∧ Go.bits .and .u32 (btw (at_ s p) (at_ s (nx (num s) p)) : Int) s = 0 := by
  have ha := (at_in s p hp).1
  have hc := (at_in s (nx (num s) p) (nx_in _ _ hp)).1
  have hg := gapless s p hp
  generalize at_ s (nx (num s) p) = c at *
  generalize at_ s p = a at *
  refine ⟨between_f a c ha hc, ?_⟩
  have hb := btw_lt a c ha hc
  rw [and_f _ _ hb hs]
  have : (btw a c &&& s : Nat) = 0 := ext32 (Nat.lt_of_le_of_lt Nat.and_le_left hb) (by decide) fun j hj => by
    rw [Nat.testBit_and, btw_bit _ _ _ ha hc hj, Nat.zero_testBit]
    cases hbj : s.testBit j with
    | false => simp
    | true => have := hg j hj hbj; rw [decide_eq_false (by omega)]; rfl
  rw [this]
  rfl

theorem num_le (s : Nat) : num s ≤ 32 := by have := lst_len s; rw [len_mem] at this; exact this
def ix (n p t : Nat) : Nat := if p + t < n then p + t else p + t - n
theorem round_loop (s p : Nat) (hs : s < 2 ^ 32) (hp : p < num s) (h2 : 2 ≤ num s) : ∀ (d t m : Nat), num s - t = d → t ≤ num s → m < 2 ^ 32 → (∀ j, j < 32 → (m.testBit j = true ↔ ∃ t', 1 ≤ t' ∧ t' ≤ t ∧ j = at_ s (ix (num s) p t'))) → Ev (fun k => fuglemanlaw05_MembersRound.l0 k s (at_ s p) m (at_ s (ix (num s) p t)) (num s : Int) t) true
  | 0, t, m, hd, ht, hm, hb => by
    obtain rfl : t = num s := by omega
    have e1 : ix (num s) p (num s) = p := by unfold ix; rw [if_neg (by omega)]; omega
    have e : m = s := ext32 hm hs fun j hj => by
      rw [Bool.eq_iff_iff, hb j hj]
      constructor
      · rintro ⟨t', h3, h4, rfl⟩
        exact (at_in s _ (by unfold ix; split <;> omega)).2
      · intro h
        obtain ⟨q, hq, rfl⟩ := at_of s j hj h
        by_cases hqp : p < q
        · exact ⟨q - p, by omega, by omega, by unfold ix; rw [if_pos (by omega)]; congr 1; omega⟩
        · exact ⟨q + num s - p, by omega, by omega, by unfold ix; rw [if_neg (by omega)]; congr 1; omega⟩
    refine Ev.step (f := fun _ => some _) (fun k => ?_) (Ev.now _)
    simp only [fuglemanlaw05_MembersRound.l0]
    rw [if_neg (by omega), e1, if_pos rfl, e]
    simp
  | d + 1, t, m, hd, ht, hm, hb => by
    have hl := num_le s
    have hi : ix (num s) p t < num s := by unfold ix; split <;> omega
    have en : nx (num s) (ix (num s) p t) = ix (num s) p (t + 1) := by unfold nx ix; split <;> split <;> split <;> omega
    have hn := round_next s _ hi h2
    have hv := round_prev s _ hi h2
    have hw := round_btw s _ hs hi
    rw [en] at hn hv hw
    have hi' : ix (num s) p (t + 1) < num s := by rw [← en]; exact nx_in _ _ hi
    have hbi := at_in s _ hi'
    have hno : m.testBit (at_ s (ix (num s) p (t + 1))) = false := by
      rw [← Bool.not_eq_true, hb _ hbi.1]
      rintro ⟨t', h3, h4, h5⟩
      have := at_inj s _ _ hi' (by unfold ix; split <;> omega) h5
      unfold ix at this
      split at this <;> split at this <;> omega
    have ih := round_loop s p hs hp h2 d (t + 1) (wth m (at_ s (ix (num s) p (t + 1)))) (by omega) (by omega) (wth_lt _ hm) fun j hj => by
      rw [wth_bit _ _ _ hj, Bool.or_eq_true, decide_eq_true_eq, hb j hj]
      constructor
      · rintro (⟨t', h3, h4, h5⟩ | h)
        · exact ⟨t', h3, by omega, h5⟩
        · exact ⟨t + 1, by omega, by omega, by omega⟩
      · rintro ⟨t', h3, h4, h5⟩
        by_cases h6 : t' = t + 1
        · subst h6; right; omega
        · exact .inl ⟨t', h3, by omega, h5⟩
    refine Ev.step (fun k => ?_) ih
    simp only [fuglemanlaw05_MembersRound.l0]
    rw [if_pos (by omega), hn]
    simp only [Option.bind_some]
    rw [hv]
    simp only [Option.bind_some]
    rw [if_pos trivial, if_pos trivial, if_pos trivial, has_f _ _ hm, hasN _ _ hbi.1, hno, hw.1]
    simp only [Option.bind_some]
    rw [if_neg (by decide), hw.2, if_pos rfl, with_f _ _ hm, w64 (by omega) (by omega)]
    rfl
theorem round_law (s : Nat) (a : Int) (hs : s < 2 ^ 32) (h0 : 0 ≤ a) (h1 : a ≤ 255) : Ev (fun k => fuglemanlaw05_MembersRound.f k s a) true := by
  have hl := num_le s
  unfold fuglemanlaw05_MembersRound.f
  refine Ev.bind awake_ev (Ev.congr (fun k => if_pos rfl) (Ev.bind (plist_ev s hs) ?_))
  rw [len_mem]
  by_cases h : num s < 2
  · exact Ev.congr (fun k => if_pos (by omega)) (Ev.now _)
  · obtain ⟨n, rfl⟩ := Int.eq_ofNat_of_zero_le h0
    have hp : n % num s < num s := Nat.mod_lt _ (by omega)
    have em : Int.tmod (wrap64 (n : Int)) (num s : Int) = ((n % num s : Nat) : Int) := by
      rw [w64 (by omega) (by omega), Int.tmod_eq_emod_of_nonneg (by omega)]; rfl
    rw [em, rd_lst s _ hp]
    generalize n % num s = p at *
    have e0 : ix (num s) p 0 = p := by unfold ix; rw [if_pos (by omega)]; rfl
    have := round_loop s p hs hp (by omega) _ 0 0 rfl (by omega) (by decide) (fun j hj => by rw [Nat.zero_testBit]; constructor; (intro h; cases h); (rintro ⟨t', h3, h4, _⟩; omega))
    rw [e0] at this
    exact Ev.congr (fun k => if_neg (by omega)) (Ev.congr (fun k => if_neg (by omega)) (Ev.congr (fun k => if_pos (by omega)) (Ev.congr (fun k => if_pos (by omega)) this)))
theorem wf8 {x : Int} (h : (Lit.int .u8 x).wf = true) : 0 ≤ x ∧ x ≤ 255 := by
  simp [Lit.wf] at h
  have e : IntKind.u8.min = 0 := by decide
  have e2 : IntKind.u8.max = 255 := by decide
  rw [e, e2] at h
  exact h
end Go.Proofs.YtfhiggefmcklaaaDoor.Plain

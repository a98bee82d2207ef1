/- Plain facts on the wheel: ticks that are skipped are ticks. No condition but those that each states. -/
import Derived.Test.YtbpjcgahdgpmhaaDoorWPlain3
namespace Go.Proofs.YtbpjcgahdgpmhaaDoor.Whl
open Go.RowKit Go.Proofs.YtbpjcgahdgpmhaaDoorW.PrintWords Go.Proofs.YtbpjcgahdgpmhaaDoorW.PrintLast Go.Proofs.YtbpjcgahdgpmhaaDoorW.PrintMore

/-- What is left after so many ticks; what comes in them. -/
def dn (x : Nat → Int) (m : Nat) : Nat → Int := fun n => if (m : Int) < x n then x n - m else 0
def outs (x : Nat → Int) : Nat → List Int
  | 0 => []
  | m + 1 => outs x m ++ rout (dn x m) 16
theorem rout_congr' (f f' : Nat → Int) (h : ∀ n, n < 16 → f n = f' n) : rout f 16 = rout f' 16 := by
  unfold rout
  congr 1
  apply List.filter_congr
  intro n hn
  rw [h n (List.mem_range.1 hn)]
theorem dn_add (x : Nat → Int) (a b n : Nat) : dn (dn x a) b n = dn x (a + b) n := by
  unfold dn
  by_cases h1 : (a : Int) < x n
  · rw [if_pos h1]
    by_cases h2 : (b : Int) < x n - a
    · rw [if_pos h2, if_pos (by omega)]; omega
    · rw [if_neg h2, if_neg (by omega)]
  · rw [if_neg h1, if_neg (by omega), if_neg (by omega)]
theorem dn_zero (x : Nat → Int) (n : Nat) (h : 0 ≤ x n) : dn x 0 n = x n := by unfold dn; split <;> omega
theorem dn_one (x : Nat → Int) (n : Nat) (h : 0 ≤ x n) : dn x 1 n = dec (x n) := by unfold dn dec; split <;> split <;> omega
theorem outs_congr (f f' : Nat → Int) (h : ∀ n, n < 16 → f n = f' n) : ∀ m, outs f m = outs f' m
  | 0 => rfl
  | m + 1 => by
    show outs f m ++ _ = outs f' m ++ _
    rw [outs_congr f f' h m]
    congr 1
    exact rout_congr' _ _ fun n hn => by unfold dn; rw [h n hn]
theorem outs_add (x : Nat → Int) (a : Nat) : ∀ b, outs x (a + b) = outs x a ++ outs (dn x a) b
  | 0 => by simp [outs]
  | b + 1 => by
    show outs x (a + b) ++ _ = outs x a ++ (outs (dn x a) b ++ _)
    rw [outs_add x a b, List.append_assoc]
    congr 2
    exact rout_congr' _ _ fun n _ => (dn_add x a b n).symm
theorem rfold_least (x : Nat → Int) : ∀ i j, j < i → 0 < x j → 0 < rfold x i ∧ rfold x i ≤ x j
  | 0, _, h, _ => by omega
  | i + 1, j, hj, hx => by
    rw [rfold_succ]
    have hz := (sfold_rfold x i).2
    unfold rstep
    by_cases e : j = i
    · subst e
      split
      · exact ⟨hx, Int.le_refl _⟩
      · rename_i hh
        have h1 : ¬ rfold x j = 0 := fun h => hh ⟨hx, .inl h⟩
        have h2 : ¬ x j < rfold x j := fun h => hh ⟨hx, .inr h⟩
        omega
    · have ih := rfold_least x i j (by omega) hx
      split
      · rename_i hh
        obtain ⟨h1, h2⟩ := hh
        rcases h2 with h2 | h2 <;> omega
      · exact ih
theorem soon_view {s : Wh} (h : Inv s) : (soon s).1 = rfold (view s) 16 ∧ (soon s).2 = decide (0 < rfold (view s) 16) := by
  have e1 : soon s = sfold (view s) 16 := sfold_congr _ _ 16 fun j hj => left_view h j hj
  rw [e1, (sfold_rfold (view s) 16).1]
  exact ⟨rfl, rfl⟩
/-- Ticks ahead of the soonest one bring nothing. -/
theorem outs_none (x : Nat → Int) : ∀ d : Nat, (∀ n, n < 16 → 0 < x n → (d : Int) < x n) → outs x d = []
  | 0, _ => rfl
  | d + 1, h => by
    show outs x d ++ rout (dn x d) 16 = []
    rw [outs_none x d (fun n hn hx => by have := h n hn hx; omega), List.nil_append]
    unfold rout
    rw [List.map_eq_nil_iff, List.filter_eq_nil_iff]
    intro n hn
    have hn := List.mem_range.1 hn
    unfold dn
    by_cases hx : 0 < x n
    · have := h n hn hx
      rw [if_pos (by omega)]
      simp
      omega
    · rw [if_neg (by omega)]
      decide
theorem idle_inv {s : Wh} (h : Inv s) (d : Nat) (hd : ∀ n, n < 16 → 0 < view s n → (d : Int) < view s n) (hn : s.now + d ≤ 1000000000000) : Inv { s with now := s.now + d } ∧ ∀ n, n < 16 → view { s with now := s.now + d } n = dn (view s) d n := by
  have h0 := h.good.now0
  refine ⟨⟨⟨h.good.set, h.good.due, h.good.spoke, by show (0 : Int) ≤ s.now + d; omega, hn⟩, h.hang, fun n hn hb => ?_⟩, fun n hn => ?_⟩
  · have hb' : s.set.testBit n = true := hb
    have h1 := h.soon n hn hb'
    have h2 := hd n hn ((view_rng h n hn).2.2.2 hb')
    unfold view at h2
    rw [if_pos hb'] at h2
    show s.now + d < s.due n ∧ s.due n ≤ s.now + d + 10000
    omega
  · unfold dn
    cases hb : s.set.testBit n with
    | true =>
      have h2 := hd n hn ((view_rng h n hn).2.2.2 hb)
      rw [if_pos h2]
      unfold view
      show (if s.set.testBit n = true then s.due n - (s.now + d) else 0) = _
      rw [hb, if_pos rfl, if_pos rfl]
      omega
    | false =>
      have hv : view s n = 0 := by unfold view; rw [hb]; rfl
      rw [hv, if_neg (by omega)]
      unfold view
      show (if s.set.testBit n = true then s.due n - (s.now + d) else 0) = _
      rw [hb]
      rfl
theorem skp_inv : ∀ (k N : Nat) (s : Wh) (out : List Int), N < k → Inv s → s.now + N ≤ 100000000000 → ∃ s', skp k s N out = some (s', out ++ outs (view s) N) ∧ Inv s' ∧ (∀ n, n < 16 → view s' n = dn (view s) N n) ∧ s'.now ≤ s.now + N
  | 0, _, _, _, h, _, _ => by omega
  | k + 1, N, s, out, hk, h, hn => by
    have hpos : ∀ n, n < 16 → 0 ≤ view s n := fun n hn => (view_rng h n hn).1
    obtain ⟨e1, e2⟩ := soon_view h
    by_cases h0 : N = 0
    · subst h0
      refine ⟨s, ?_, h, fun n hn => (dn_zero _ _ (hpos n hn)).symm, by omega⟩
      simp only [skp]
      rw [if_pos (by omega)]
      simp [outs]
    · by_cases hs : 0 < rfold (view s) 16
      · generalize hL : rfold (view s) 16 = L at *
        have hidle : idle s N = mn L N - 1 := by unfold idle; rw [e1]
        have hmn : 1 ≤ mn L N ∧ mn L N ≤ N ∧ mn L N ≤ L := by unfold mn; split <;> omega
        obtain ⟨d, hd⟩ : ∃ d : Nat, mn L N - 1 = d := ⟨(mn L N - 1).toNat, by omega⟩
        have hdn : ∀ n, n < 16 → 0 < view s n → (d : Int) < view s n := fun n hn hv => by
          have := (rfold_least (view s) 16 n hn hv).2
          omega
        have efar : far s N = { s with now := s.now + d } := by
          unfold far
          rw [hidle, hd]
          split
          · rfl
          · rename_i hz
            have : d = 0 := by omega
            subst this
            cases s
            simp
        have efarn : farn s N - 1 = ((N - d - 1 : Nat) : Int) := by
          unfold farn
          rw [hidle, hd]
          split <;> omega
        obtain ⟨i2, v2⟩ := idle_inv h d hdn (by omega)
        obtain ⟨r, er, i3, v3, o3, n3⟩ := tick_inv i2 (by show s.now + d < _; omega)
        have n3' : r.1.now ≤ s.now + d + 1 := n3
        obtain ⟨s', e', i', v', l'⟩ := skp_inv k (N - d - 1) r.1 (out ++ r.2) (by omega) i3 (by omega)
        have vr : ∀ n, n < 16 → view r.1 n = dn (view s) (d + 1) n := fun n hn => by
          rw [v3 n hn, v2 n hn, ← dn_add, dn_one]
          unfold dn
          have := hpos n hn
          split <;> omega
        refine ⟨s', ?_, i', fun n hn => ?_, by omega⟩
        · simp only [skp]
          rw [if_neg (by omega), if_pos (by rw [e2]; exact decide_eq_true hs), efar, er]
          simp only [Option.bind_some]
          rw [efarn, e']
          have eo : outs (view s) N = outs (view s) d ++ (rout (dn (view s) d) 16 ++ outs (dn (view s) (d + 1)) (N - d - 1)) := by
            have e9 : N = d + 1 + (N - d - 1) := by omega
            rw [e9, outs_add, show d + 1 + (N - d - 1) - d - 1 = N - d - 1 by omega]
            show (outs (view s) d ++ _) ++ _ = _
            rw [List.append_assoc]
          rw [eo, outs_none _ d hdn, List.nil_append, o3, rout_congr' _ _ v2, outs_congr _ _ vr, List.append_assoc]
        · rw [v' n hn]
          have e9 : N = d + 1 + (N - d - 1) := by omega
          rw [show dn (view s) N n = dn (view s) (d + 1 + (N - d - 1)) n by rw [← e9], ← dn_add]
          unfold dn
          rw [vr n hn]
          rfl
      · have hz : ∀ n, n < 16 → view s n = 0 := fun n hn => by
          have h1 := hpos n hn
          by_cases hv : 0 < view s n
          · exact absurd (rfold_least (view s) 16 n hn hv).1 hs
          · omega
        refine ⟨s, ?_, h, fun n hn => ?_, by omega⟩
        · simp only [skp]
          rw [if_neg (by omega), if_neg (by rw [e2]; simpa using hs), outs_none _ N (fun n hn hv => by have := hz n hn; omega), List.append_nil]
        · rw [hz n hn]
          unfold dn
          rw [hz n hn, if_neg (by omega)]
end Go.Proofs.YtbpjcgahdgpmhaaDoor.Whl

/- One act on the wheel, and its skips, told by what is left of each timer. Conditions: those that each statement names. -/
import Derived.Test.YtbpjcgahdgpmhaaDoorWheel7
import Derived.Test.YtbpjcgahdgpmhaaDoorWPlain4
namespace Go.Proofs.YtbpjcgahdgpmhaaDoor.Whl
open Go.RowKit Go.Proofs.YtbpjcgahdgpmhaaDoorW.PrintWords Go.Proofs.YtbpjcgahdgpmhaaDoorW.PrintLast Go.Proofs.YtbpjcgahdgpmhaaDoorW.PrintMore
set_option linter.unusedVariables false
def seti (s : Wh) (id t : Int) : Wh := if fits id t = true then put (canc s id) id.toNat (s.now + t) else s
theorem fits_rng {id t : Int} (h : fits id t = true) : ∃ n : Nat, id = n ∧ n < 16 ∧ 1 ≤ t ∧ t ≤ 10000 := by
  unfold fits at h
  have := of_decide_eq_true h
  exact ⟨id.toNat, by omega, by omega, by omega, by omega⟩
theorem seti_inv {s : Wh} (h : Inv s) (id t : Int) : Inv (seti s id t) ∧ (seti s id t).now = s.now ∧ ∀ m, m < 16 → view (seti s id t) m = if fits id t = true then up (view s) id.toNat t m else view s m := by
  unfold seti
  by_cases hf : fits id t = true
  · obtain ⟨n, rfl, hn, h1, h2⟩ := fits_rng hf
    simp only [if_pos hf, Int.toNat_natCast]
    obtain ⟨i, v⟩ := put_inv h n t hn h1 h2
    exact ⟨i, canc_now s n, v⟩
  · simp only [if_neg hf]
    first | exact ⟨h, rfl, fun _ _ => rfl⟩ | exact ⟨h, trivial, fun _ _ => trivial⟩
theorem set_f (w : World) (g : Nat) (id t : Int) (s : Wh) (h : At w g s) (hi : Inv s) :
    Calls Tryd.prog 8 #[.pointer (some ⟨g, 0, none⟩), .int .i64 id, .int .i64 t] w fun e w' => e = .returned (.bool (fits id t)) ∧ At w' g (seti s id t) ∧ Turn g w w' := by
  unfold seti
  cases hf : fits id t with
  | true =>
    obtain ⟨n, rfl, hn, h1, h2⟩ := fits_rng hf
    rw [if_pos rfl, Int.toNat_natCast]
    have gc := canc_good hi.good (n : Int)
    exact set_in w g n t s h hi.good.set (fun j hj _ => hi.good.due j hj) hn h1 h2 hi.good.now0 hi.good.now1 ⟨gc.set, gc.spoke⟩
  | false =>
    rw [if_neg (by decide)]
    exact (set_no w g id t hf).mono fun e w' ⟨h1, nd, h2⟩ => ⟨h1, h.drawn ⟨nd, h2⟩, by rw [h2]; exact (Turn.refl g w).drewN nd⟩
theorem rset_f (w : World) (g : Nat) (id t : Int) (x : Nat → Int) (h : Ref w g x) :
    Calls Tryd.prog 12 #[.pointer (some ⟨g, 0, none⟩), .int .i64 id, .int .i64 t] w fun e w' => e = .returned (.bool (fits id t)) ∧ Ref w' g (if fits id t = true then up x id.toNat t else x) ∧ Turn g w w' := by
  cases hf : fits id t with
  | true =>
    obtain ⟨n, rfl, hn, h1, h2⟩ := fits_rng hf
    rw [if_pos rfl, Int.toNat_natCast]
    exact rset_in w g n t x h hn h1 h2
  | false =>
    rw [if_neg (by decide)]
    exact (rset_no w g id t hf).mono fun e w' ⟨h1, nd, h2⟩ => ⟨h1, h.drawn ⟨nd, h2⟩, by rw [h2]; exact (Turn.refl g w).drewN nd⟩
theorem cancelv_f (w : World) (g : Nat) (id : Int) (s : Wh) (h : At w g s) (hi : Inv s) :
    Calls Tryd.prog 9 #[.pointer (some ⟨g, 0, none⟩), .int .i64 id] w fun e w' => e = .returned (.bool (decide (0 < rleft (view s) id))) ∧ At w' g (canc s id) ∧ Turn g w w' := by
  have e : has s id = decide (0 < rleft (view s) id) := by
    unfold has rleft
    by_cases hr : 0 ≤ id ∧ id < 16
    · rw [decide_eq_true hr, if_pos hr, Bool.true_and, Bool.eq_iff_iff, decide_eq_true_eq]
      exact (view_rng hi id.toNat (by omega)).2.2.symm
    · rw [decide_eq_false hr, if_neg hr]; rfl
  rw [← e]
  exact cancel_f w g id s h hi.good.set (fun j hj _ => hi.good.due j hj)
theorem tickv_f (w : World) (g : Nat) (s : Wh) (h : At w g s) (hg : 0 < g) (hi : Inv s) (hn : s.now < 1000000000) (ht : Tabs w) :
    Calls Tryd.prog 11 #[.pointer (some ⟨g, 0, none⟩)] w fun e w' => ∃ v s', e = .returned v ∧ Out w' w.heap.size v (rout (view s) 16) ∧ At w' g s' ∧ Turn g w w' ∧ Inv s' ∧ (∀ n, n < 16 → view s' n = dec (view s n)) ∧ s'.now ≤ s.now + 1 := by
  obtain ⟨r, e, i, v, o, n⟩ := tick_inv hi (by omega)
  refine (tick_f w g s r h hg hi.good (by omega) ht e).mono ?_
  rintro e2 w' ⟨u, rfl, ho, ha, hT⟩
  rw [o] at ho
  exact ⟨u, r.1, rfl, ho, ha, hT, i, v, n⟩
theorem skp_le (k : Nat) (s : Wh) (n : Int) (out : List Int) (h : n ≤ 0) : skp (k + 1) s n out = some (s, out) := by simp only [skp]; rw [if_pos h]
theorem skipv_f (w : World) (g : Nat) (s : Wh) (n : Int) (h : At w g s) (hg : 0 < g) (hi : Inv s) (hn : s.now < 1000000000) (hn0 : -9223372036854775808 ≤ n) (ht : Tabs w) :
    Calls Tryd.prog 16 #[.pointer (some ⟨g, 0, none⟩), .int .i64 n] w fun e w' => ∃ v s', e = .returned v ∧ Out w' w.heap.size v (outs (view s) (mn n 20000).toNat) ∧ At w' g s' ∧ Turn g w w' ∧ Inv s' ∧ (∀ m, m < 16 → view s' m = dn (view s) (mn n 20000).toNat m) ∧ s'.now ≤ s.now + (mn n 20000).toNat := by
  have hm : mn n 20000 ≤ 20000 := by unfold mn; split <;> omega
  obtain ⟨s', e, i, v, l⟩ := skp_inv 20001 (mn n 20000).toNat s [] (by omega) hi (by omega)
  have e' : skp 20001 s (mn n 20000) [] = some (s', outs (view s) (mn n 20000).toNat) := by
    by_cases h0 : 0 ≤ mn n 20000
    · rw [Int.toNat_of_nonneg h0, List.nil_append] at e; exact e
    · have hz : (mn n 20000).toNat = 0 := by omega
      rw [hz] at e ⊢
      have e3 := (skp_le 20000 s ((0 : Nat) : Int) [] (by omega)).symm.trans e
      exact (skp_le 20000 s (mn n 20000) [] (by omega)).trans e3
  refine (skip_f w g s n 20001 _ h hg hi.good (by omega) hn0 ht e').mono ?_
  rintro e2 w' ⟨u, rfl, ho, ha, hT⟩
  exact ⟨u, s', rfl, ho, ha, hT, i, v, l⟩
end Go.Proofs.YtbpjcgahdgpmhaaDoor.Whl

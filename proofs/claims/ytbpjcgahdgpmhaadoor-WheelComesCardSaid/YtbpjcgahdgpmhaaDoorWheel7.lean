/- The wheel's own small test answers true: the walk. Conditions: the table of math/bits reads as laid. -/
import Derived.Test.YtbpjcgahdgpmhaaDoorWPlain3
namespace Go.Proofs.YtbpjcgahdgpmhaaDoor.Whl
open Go.RowKit Go.Proofs.YtbpjcgahdgpmhaaDoorW.PrintWords Go.Proofs.YtbpjcgahdgpmhaaDoorW.PrintLast Go.Proofs.YtbpjcgahdgpmhaaDoorW.PrintMore
set_option linter.unusedVariables false
theorem none_inv : Inv none_ := ⟨⟨by decide, fun _ _ => by show (0 : Int) ≤ 0; omega, fun _ _ => by show 0 < 65536; omega, by show (0 : Int) ≤ 0; omega, by show (0 : Int) ≤ _; omega⟩, fun n j _ _ => by show (0 : Nat).testBit n = ((0 : Nat).testBit n && _); rw [Nat.zero_testBit]; rfl, fun n _ h => by
  have h' : (0 : Nat).testBit n = true := h
  rw [Nat.zero_testBit] at h'; cases h'⟩
theorem none_view (n : Nat) : view none_ n = 0 := by
  unfold view
  show (if (0 : Nat).testBit n = true then _ else (0 : Int)) = 0
  rw [Nat.zero_testBit]
  rfl
theorem rout_congr (f f' : Nat → Int) (h : ∀ n, n < 16 → f n = f' n) : rout f 16 = rout f' 16 := by
  unfold rout
  congr 1
  apply List.filter_congr
  intro n hn
  rw [h n (List.mem_range.1 hn)]
theorem num_congr (f f' : Nat → Int) (h : ∀ n, n < 16 → f n = f' n) : num f 16 = num f' 16 := by
  unfold num
  congr 1
  apply List.filter_congr
  intro n hn
  rw [h n (List.mem_range.1 hn)]
/-- Set to 2, two ticks: none, then the third. -/
theorem small_test : ∃ s0 s1 s2, put (canc none_ (3 : Nat)) 3 (none_.now + 2) = s0 ∧ Good s0 ∧ s0.now = 0 ∧ tick s0 = some (s1, []) ∧ Good s1 ∧ s1.now ≤ 1 ∧ tick s1 = some (s2, [3]) ∧ Good s2 ∧ ones s2.set = 0 := by
  obtain ⟨i0, v0⟩ := put_inv none_inv 3 2 (by omega) (by omega) (by omega)
  have n0 : (put (canc none_ (3 : Nat)) 3 (none_.now + 2)).now = 0 := (canc_now none_ _).trans rfl
  have w0 : ∀ m, m < 16 → view (put (canc none_ (3 : Nat)) 3 (none_.now + 2)) m = if m = 3 then 2 else 0 := fun m hm => by
    rw [v0 m hm]
    unfold up
    split
    · rfl
    · exact none_view m
  obtain ⟨⟨s1, o1⟩, e1, i1, v1, f1, l1⟩ := tick_inv i0 (by rw [n0]; decide)
  simp only at i1 v1 f1 l1
  have w1 : ∀ m, m < 16 → view s1 m = if m = 3 then 1 else 0 := fun m hm => by
    rw [v1 m hm, w0 m hm]
    split <;> decide
  obtain ⟨⟨s2, o2⟩, e2, i2, v2, f2, l2⟩ := tick_inv i1 (by omega)
  simp only at i2 v2 f2 l2
  have w2 : ∀ m, m < 16 → view s2 m = (fun _ => (0 : Int)) m := fun m hm => by
    rw [v2 m hm, w1 m hm]
    show dec _ = 0
    split <;> decide
  have g1 : o1 = [] := by rw [f1, rout_congr _ _ w0]; decide
  have g2 : o2 = [3] := by rw [f2, rout_congr _ _ w1]; decide
  subst g1 g2
  exact ⟨_, s1, s2, rfl, i0.good, n0, e1, i1.good, by omega, e2, i2.good, by rw [ones_num i2, num_congr _ _ w2]; decide⟩
theorem awake_f (w : World) (ht : Tabs w) : Calls Tryd.prog 6 #[] w fun e w' => e = .returned (.bool true) ∧ Below w.heap.size w w' := by
  have h0 : 0 < w.heap.size := World.block_lt_of_cell? w _ (ht 0 (by decide))
  obtain ⟨s0, s1, s2, e0, g0, n0, e1, g1, n1, e2, g2, o2⟩ := small_test
  have HN := Aside0.mk (new_f w)
  have HSet := Aside0.mk fun (w1 : World) (a : At w1 w.heap.size none_) => set_in w1 w.heap.size 3 2 none_ a (by decide) (fun _ _ _ => by show (0 : Int) ≤ 0; omega) (by decide) (by decide) (by decide) (by show (0 : Int) ≤ 0; omega) (by show (0 : Int) ≤ _; omega) ⟨(canc_good none_inv.good _).set, (canc_good none_inv.good _).spoke⟩
  rw [e0] at HSet
  have HT1 := Aside0.mk fun (w1 : World) (a : At w1 w.heap.size s0) (t : Tabs w1) => tick_f w1 w.heap.size s0 _ a h0 g0 (by rw [n0]; decide) t e1
  have HT2 := Aside0.mk fun (w1 : World) (a : At w1 w.heap.size s1) (t : Tabs w1) => tick_f w1 w.heap.size s1 _ a h0 g1 (by omega) t e2
  have HLe := Aside0.mk fun (w1 : World) (a : At w1 w.heap.size s2) => len_f w1 w.heap.size s2 a g2.set
  rw [o2] at HLe
  have HT := Aside0.mk ht
  have H0 := Aside0.mk h0
  clear ht e0 e1 e2 g0 g1 g2 n0 n1 o2 h0
  go_enter Tryd.func6, Tryd.ntmps6
  go_wp2_with (first | (go_at_call 7; refine HN.out.mono ?_; rintro e w' ⟨rfl, ha, hb⟩; have HA := Aside0.mk ha; have HB := Aside0.mk hb; clear ha hb) | (go_at_call 8; refine (HSet.out _ HA.out).mono ?_; rintro e w' ⟨rfl, ha, ht⟩; have n0_ := Aside0.mk ha; have n1_ := Aside0.mk (HB.out.trans (ht.below (Nat.le_refl _) HB.out.size)); clear HA HB ha ht; have HA := n0_; have HB := n1_; clear n0_ n1_) | (go_at_call 11; refine (HT1.out _ HA.out (HT.out.below HB.out H0.out)).mono ?_; rintro e w' ⟨v1, rfl, ho1, ha, ht⟩; have n0_ := Aside0.mk ha; have n1_ := Aside0.mk (HB.out.trans (ht.below (Nat.le_refl _) HB.out.size)); obtain ⟨A1, c1, e1_⟩ := Kd.R_slice ho1; subst e1_; clear HA HB ha ht ho1; have HA := n0_; have HB := n1_; clear n0_ n1_) | (go_at_call 11; refine (HT2.out _ HA.out (HT.out.below HB.out H0.out)).mono ?_; rintro e w' ⟨v2, rfl, ho2, ha, ht⟩; have n0_ := Aside0.mk ha; have n1_ := Aside0.mk (HB.out.trans (ht.below (Nat.le_refl _) HB.out.size)); obtain ⟨A2, c2, e2_⟩ := Kd.R_slice ho2; subst e2_; obtain ⟨ad, ead, hx0⟩ := Kd.at_int (Kd.R_reads' ho2).2.2 0 (by decide) (by decide); cases ead; have hx1 : w'.cell? (ad.add 0) = some (.int .i64 3) := hx0; have hx2 : w'.cell? ad = some (.int .i64 3) := (by first | exact hx1 | simpa using hx1); clear hx0; clear HA HB ha ht ho2; have HA := n0_; have HB := n1_; clear n0_ n1_) | (go_at_call 18; refine (HLe.out _ HA.out).mono ?_; rintro e w' ⟨rfl, ⟨nd, rfl⟩⟩))
  go_ret
  exact ⟨by first | rfl | simp, by first | exact HB.out | exact HB.out.trans ⟨rfl, rfl, rfl, Nat.le_refl _, fun _ _ => rfl⟩⟩
end Go.Proofs.YtbpjcgahdgpmhaaDoor.Whl

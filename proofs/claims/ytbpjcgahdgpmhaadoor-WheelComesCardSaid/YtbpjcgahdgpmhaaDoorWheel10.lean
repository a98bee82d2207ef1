/- What one act does to both wheels, told for the walks of WheelRuns and WheelComes. Conditions: those that each statement names. -/
import Derived.Test.YtbpjcgahdgpmhaaDoorWheel9
import Derived.OpenShut
namespace Go.Proofs.YtbpjcgahdgpmhaaDoor.Whl
open Go.RowKit Go.Proofs.YtbpjcgahdgpmhaaDoorW.PrintWords Go.Proofs.YtbpjcgahdgpmhaaDoorW.PrintLast Go.Proofs.YtbpjcgahdgpmhaaDoorW.PrintMore
set_option linter.unusedVariables false
/-- Both wheels in memory, and alike. -/
structure Both (w : World) (gv gx : Nat) (s : Wh) (x : Nat → Int) : Prop where
  v : At w gv s
  r : Ref w gx x
  inv : Inv s
  eq : ∀ n, n < 16 → view s n = x n
theorem Both.rng {w : World} {gv gx : Nat} {s : Wh} {x : Nat → Int} (h : Both w gv gx s x) (n : Nat) (hn : n < 16) : 0 ≤ x n ∧ x n ≤ 10000 := by
  rw [← h.eq n hn]
  exact ⟨(view_rng h.inv n hn).1, (view_rng h.inv n hn).2.1⟩
theorem Both.own {w w' : World} {gv gx B : Nat} {s : Wh} {x : Nat → Int} (h : Both w gv gx s x) (k : Below B w w') (h1 : gv < B) (h2 : gx < B) : Both w' gv gx s x := ⟨h.v.own k h1, h.r.own k h2, h.inv, h.eq⟩
theorem Both.drawn {w w' : World} {gv gx : Nat} {s : Wh} {x : Nat → Int} (h : Both w gv gx s x) (d : Drawn0 w w') : Both w' gv gx s x := ⟨h.v.drawn d, h.r.drawn d, h.inv, h.eq⟩
theorem left_x {s : Wh} {x : Nat → Int} (hi : Inv s) (e : ∀ n, n < 16 → view s n = x n) (id : Int) : rleft (view s) id = rleft x id := by
  unfold rleft
  split
  · exact e _ (by omega)
  · rfl
theorem set_eq {s : Wh} {x : Nat → Int} (hi : Inv s) (e : ∀ n, n < 16 → view s n = x n) (id t : Int) : ∀ n, n < 16 → view (seti s id t) n = (if fits id t = true then up x id.toNat t else x) n := fun n hn => by
  rw [(seti_inv hi id t).2.2 n hn]
  split
  · unfold up; split
    · rfl
    · exact e n hn
  · exact e n hn
theorem alike_v (w : World) (gv gx : Nat) (s : Wh) (x : Nat → Int) (h : Both w gv gx s x) :
    Calls Tryd.prog 17 #[.pointer (some ⟨gv, 0, none⟩), .pointer (some ⟨gx, 0, none⟩)] w fun e w' => e = .returned (.bool true) ∧ Drawn0 w w' := by
  obtain ⟨a1, a2, a3, a4⟩ := agree h.inv x h.eq
  exact alike_f w gv gx s x h.v h.r h.inv.good.set (fun id _ _ => a1 id) a2 a3 a4
theorem canc_no {s : Wh} {x : Nat → Int} (hi : Inv s) (e : ∀ n, n < 16 → view s n = x n) (id : Int) (h : ¬ 0 < rleft x id) : canc s id = s := by
  unfold canc
  rw [if_neg]
  intro hh
  obtain ⟨n, rfl, hn, hb⟩ := has_rng hh
  apply h
  rw [← left_x hi e]
  unfold rleft
  rw [if_pos (by omega), Int.toNat_natCast]
  exact (view_rng hi n hn).2.2.2 hb
theorem rleft_pos {x : Nat → Int} {id : Int} (h : 0 < rleft x id) : ∃ n : Nat, id = n ∧ n < 16 ∧ 0 < x n := by
  unfold rleft at h
  split at h
  · exact ⟨id.toNat, by omega, by omega, h⟩
  · omega
theorem canc_yes {s : Wh} {x : Nat → Int} (hi : Inv s) (e : ∀ n, n < 16 → view s n = x n) (n : Nat) (hn : n < 16) : Inv (canc s (n : Int)) ∧ (∀ m, m < 16 → view (canc s (n : Int)) m = up x n 0 m) ∧ (canc s (n : Int)).now = s.now :=
  ⟨canc_inv hi n hn, fun m hm => by
    rw [canc_view s n m hn hm]
    unfold up
    split
    · rfl
    · exact e m hm, canc_now s n⟩
theorem cancel_x (w : World) (g : Nat) (id : Int) (s : Wh) (x : Nat → Int) (b : Bool) (h : At w g s) (hi : Inv s) (e : ∀ n, n < 16 → view s n = x n) (hb : decide (0 < rleft x id) = b) :
    Calls Tryd.prog 9 #[.pointer (some ⟨g, 0, none⟩), .int .i64 id] w fun e w' => e = .returned (.bool b) ∧ At w' g (canc s id) ∧ Turn g w w' := by
  subst hb
  rw [← left_x hi e]
  exact cancelv_f w g id s h hi
theorem rst_dec (x : Nat → Int) (n : Nat) (hn : n < 16) : rst x 16 n = dec (x n) := by unfold rst; rw [if_pos hn]
theorem Ref.congr {w : World} {g : Nat} {x y : Nat → Int} (h : Ref w g x) (e : ∀ n, n < 16 → x n = y n) : Ref w g y := ⟨fun j hj => by rw [← e j hj]; exact h.cell j hj, h.live⟩
theorem rtick_dn (w : World) (g k : Nat) (x : Nat → Int) (h : Ref w g (dn x k)) (hx : ∀ j, j < 16 → 0 ≤ x j ∧ x j ≤ 10000) :
    Calls Tryd.prog 15 #[.pointer (some ⟨g, 0, none⟩)] w fun e w' => ∃ v, e = .returned v ∧ Out w' w.heap.size v (rout (dn x k) 16) ∧ Ref w' g (dn x (k + 1)) ∧ Turn g w w' := by
  refine (rtick_f w g (dn x k) h fun j hj => ?_).mono ?_
  · have := hx j hj
    unfold dn
    split <;> omega
  · rintro e w' ⟨v, rfl, ho, hr, hT⟩
    refine ⟨v, rfl, ho, hr.congr fun n hn => ?_, hT⟩
    rw [rst_dec _ n hn, ← dn_add x k 1 n, dn_one]
    have := hx n hn
    unfold dn
    split <;> omega
theorem gA_rng {x : Act3} (h : gA x) : (0 ≤ x.1 ∧ x.1 ≤ 255) ∧ (-9223372036854775808 ≤ x.2.1 ∧ x.2.1 ≤ 9223372036854775807) ∧ (-9223372036854775808 ≤ x.2.2 ∧ x.2.2 ≤ 9223372036854775807) := by
  obtain ⟨h1, h2, h3⟩ := h
  exact ⟨bounds_u8 h1, bounds_i64 h2, bounds_i64 h3⟩
theorem act_new (w : World) (x y z : Value) (t : TypeId) : (w.alloc (.cells #[x, y, z] t)).cell? ⟨w.heap.size, 0, none⟩ = some x ∧ (w.alloc (.cells #[x, y, z] t)).cell? ⟨w.heap.size, 1, none⟩ = some y ∧ (w.alloc (.cells #[x, y, z] t)).cell? ⟨w.heap.size, 2, none⟩ = some z := by
  have hb : (w.alloc (.cells #[x, y, z] t)).heap[w.heap.size]? = some (.cells #[x, y, z] t) := by
    rw [show (w.alloc (.cells #[x, y, z] t)).heap = w.heap.push (.cells #[x, y, z] t) from rfl, Array.getElem?_push, if_pos rfl]
  exact ⟨blk_cell hb 0, blk_cell hb 1, blk_cell hb 2⟩
theorem rleft_g (w : World) (g : Nat) (id L : Int) (x : Nat → Int) (h : Ref w g x) (e : rleft x id = L) :
    Calls Tryd.prog 13 #[.pointer (some ⟨g, 0, none⟩), .int .i64 id] w fun e w' => e = .returned (.int .i64 L) ∧ Drawn0 w w' := by
  subst e
  exact rleft_f w g id x h
theorem drawn_cell {w w' : World} (d : Drawn0 w w') (a : Addr) : w'.cell? a = w.cell? a := by
  obtain ⟨n, rfl⟩ := d
  rfl
theorem drawn_size {w w' : World} (d : Drawn0 w w') : w'.heap.size = w.heap.size := by
  obtain ⟨n, rfl⟩ := d
  rfl
theorem skipm_f (w : World) (g : Nat) (s : Wh) (n : Int) (N : Nat) (hN : (mn n 20000).toNat = N) (h : At w g s) (hg : 0 < g) (hi : Inv s) (hn : s.now < 1000000000) (hn0 : -9223372036854775808 ≤ n) (ht : Tabs w) :
    Calls Tryd.prog 16 #[.pointer (some ⟨g, 0, none⟩), .int .i64 n] w fun e w' => ∃ v s', e = .returned v ∧ Out w' w.heap.size v (outs (view s) N) ∧ At w' g s' ∧ Turn g w w' ∧ Inv s' ∧ (∀ m, m < 16 → view s' m = dn (view s) N m) ∧ s'.now ≤ s.now + N := by
  subst hN
  exact skipv_f w g s n h hg hi hn hn0 ht
end Go.Proofs.YtbpjcgahdgpmhaaDoor.Whl

/- Skips of so many ticks, and the comparison of two lists of one content: what the laws' walks use. Conditions: those that each statement names. -/
import Derived.Test.YtbpjcgahdgpmhaaDoorOpen
import Derived.Test.YtbpjcgahdgpmhaaDoorOwnx1
import Derived.Deep.RegionHeldLaw
namespace Go.Proofs.YtbpjcgahdgpmhaaDoor.Whl
open Go.RowKit Go.Proofs.YtbpjcgahdgpmhaaDoorW.PrintWords Go.Proofs.YtbpjcgahdgpmhaaDoorW.PrintLast Go.Proofs.YtbpjcgahdgpmhaaDoorW.PrintMore
set_option linter.unusedVariables false
theorem laid_lt (w : World) (o : Obj) : w.heap.size < (w.alloc o).heap.size := by
  rw [show (w.alloc o).heap = w.heap.push o from rfl, Array.size_push]
  exact Nat.lt_succ_self _
theorem three_new (w : World) (x y z : Value) (t : TypeId) : (w.alloc (.cells #[x, y, z] t)).cell? ⟨w.heap.size, 1, none⟩ = some y ∧ (w.alloc (.cells #[x, y, z] t)).cell? ⟨w.heap.size, 2, none⟩ = some z := by
  have hb : (w.alloc (.cells #[x, y, z] t)).heap[w.heap.size]? = some (.cells #[x, y, z] t) := by
    rw [show (w.alloc (.cells #[x, y, z] t)).heap = w.heap.push (.cells #[x, y, z] t) from rfl, Array.getElem?_push, if_pos rfl]
  exact ⟨blk_cell hb 1, blk_cell hb 2⟩
theorem new2 (w : World) : Calls Tryd.prog 7 #[] w fun e w' => ∃ g, e = .returned (.pointer (some ⟨g, 0, none⟩)) ∧ w.heap.size ≤ g ∧ g < w'.heap.size ∧ At w' g none_ ∧ Below w.heap.size w w' :=
  (new_f w).mono fun e w' ⟨h1, h2, h3⟩ => ⟨_, h1, Nat.le_refl _, h2.in, h2, h3⟩
theorem skipn_f (w : World) (g : Nat) (s : Wh) (n : Int) (N : Nat) (hN : n = N) (hN2 : N ≤ 20000) (h : At w g s) (hg : 0 < g) (hi : Inv s) (hn : s.now < 1000000000) (ht : Tabs w) :
    Calls Tryd.prog 16 #[.pointer (some ⟨g, 0, none⟩), .int .i64 n] w fun e w' => ∃ v s', e = .returned v ∧ Out w' w.heap.size v (outs (view s) N) ∧ At w' g s' ∧ Turn g w w' ∧ Inv s' ∧ (∀ m, m < 16 → view s' m = dn (view s) N m) ∧ s'.now ≤ s.now + N := by
  subst hN
  have e : (mn (N : Int) 20000).toNat = N := by unfold mn; split <;> omega
  have h2 := skipv_f w g s (N : Int) h hg hi hn (by omega) ht
  rw [e] at h2
  exact h2
theorem Out.lim {w : World} {B : Nat} {v : Value} {xs : List Int} (h : Out w B v xs) : Kd.R (Kd.int .i64) 3 w B (fun k => B ≤ k ∧ k < w.heap.size) v xs := Kd.R_mono (Kd.R_bound h) (fun _ hk => ⟨hk.1, hk.2.2.1⟩)
theorem same_l (l : List Int) (hl : l.length < 9223372036854775807) : ∀ (d i k : Nat), i + d = l.length → d < k → Own.fuglemanlaw08_same.l0 k l l (l.length : Int) (i : Int) = some true
  | d, i, 0, _, hk => absurd hk (by omega)
  | 0, i, k + 1, h, _ => by
    simp only [Own.fuglemanlaw08_same.l0]
    rw [if_neg (by omega)]
  | d + 1, i, k + 1, h, hk => by
    simp only [Own.fuglemanlaw08_same.l0]
    rw [if_pos (by omega), if_pos (by omega), if_pos (by omega), if_pos (by omega), if_pos trivial]
    have e : wrap64 ((i : Int) + 1) = ((i + 1 : Nat) : Int) := by rw [w64 (by omega) (by omega)]; omega
    rw [e]
    exact same_l l hl d (i + 1) k (by omega) (by omega)
theorem same_self (l : List Int) (hl : l.length < 9223372036854775807) : Own.fuglemanlaw08_same.f (l.length + 1) l l = some true := by
  unfold Own.fuglemanlaw08_same.f
  rw [if_pos rfl]
  exact same_l l hl l.length 0 _ (by omega) (by omega)
theorem same_yes (w : World) (A0 A1 : Option Addr) (c0 c1 n0 n1 : Nat) (l l' : List Int) (h0 : Kd.C (Kd.int .i64) w A0 n0 l) (hc0 : n0 ≤ c0) (h1 : Kd.C (Kd.int .i64) w A1 n1 l') (hc1 : n1 ≤ c1) (e : l = l') (hl : l.length < 9223372036854775807) :
    Calls Tryd.prog 14 #[.slice A0 n0 c0, .slice A1 n1 c1] w fun e w' => e = .returned (.bool true) ∧ Drawn0 w w' := by
  subst e
  obtain rfl := h0.1
  have e1 := h1.1
  subst e1
  exact Own.fuglemanlaw08_same.calls _ A0 c0 l A1 c1 l true w h0 hc0 h1 hc1 (same_self l hl)
theorem outs_len (x : Nat → Int) : ∀ m, (outs x m).length ≤ 16 * m
  | 0 => by simp [outs]
  | m + 1 => by
    have := outs_len x m
    have h2 := rout_len (dn x m) 16
    simp only [outs, List.length_append]
    omega
theorem out_reads {w : World} {A : Option Addr} {n c B : Nat} {xs : List Int} (h : Out w B (.slice A n c) xs) : n = xs.length ∧ n ≤ c ∧ Kd.C (Kd.int .i64) w A xs.length xs := Kd.R_reads' h
theorem out_sum {w : World} {A : Option Addr} {c B : Nat} {xs ys : List Int} (h : Out w B (.slice A (xs ++ ys).length c) (xs ++ ys)) : True ∧ xs.length + ys.length ≤ c ∧ Kd.C (Kd.int .i64) w A (xs.length + ys.length) (xs ++ ys) := by
  have h2 := out_reads h
  rw [List.length_append] at h2
  exact ⟨trivial, h2.2⟩
theorem below_drawn {w w' : World} (B : Nat) (d : Drawn0 w w') : Below B w w' := by
  obtain ⟨n, rfl⟩ := d
  exact ⟨rfl, rfl, rfl, Nat.le_refl _, fun _ _ => rfl⟩
/-- Skipping a + b, and skipping a and then b, come to one. -/
theorem ends_agree {s sv sw sx : Wh} {a b : Nat} (h1 : Inv sv ∧ ∀ m, m < 16 → view sv m = dn (view s) (a + b) m) (h2 : Inv sw ∧ ∀ m, m < 16 → view sw m = dn (view s) a m) (h3 : Inv sx ∧ ∀ m, m < 16 → view sx m = dn (view sw) b m) :
    outs (view s) (a + b) = outs (view s) a ++ outs (view sw) b ∧ ones sv.set = ones sx.set ∧ ∀ id : Int, left sv id = left sx id := by
  have hv : ∀ m, m < 16 → view sv m = view sx m := fun m hm => by
    rw [h1.2 m hm, h3.2 m hm, ← dn_add]
    show dn (dn (view s) a) b m = dn (view sw) b m
    unfold dn
    rw [h2.2 m hm]
    rfl
  refine ⟨?_, ?_, fun id => ?_⟩
  · rw [outs_add, outs_congr (view sw) (dn (view s) a) h2.2 b]
  · rw [ones_num h1.1, ones_num h3.1, num_congr _ _ hv]
  · rw [left_rleft h1.1 (view sx) hv, left_rleft h3.1 (view sx) (fun _ _ => rfl)]
theorem len_g (w : World) (g : Nat) (s : Wh) (m : Nat) (h : At w g s) (hs : s.set < 65536) (e : ones s.set = m) :
    Calls Tryd.prog 18 #[.pointer (some ⟨g, 0, none⟩)] w fun e w' => e = .returned (.int .i64 m) ∧ Drawn0 w w' := by
  subst e
  exact len_f w g s h hs
theorem left_g (w : World) (g : Nat) (id L : Int) (s : Wh) (h : At w g s) (hs : s.set < 65536) (e : left s id = L) :
    Calls Tryd.prog 10 #[.pointer (some ⟨g, 0, none⟩), .int .i64 id] w fun e w' => e = .returned (.int .i64 L) ∧ Drawn0 w w' := by
  subst e
  exact left_f w g id s h hs
end Go.Proofs.YtbpjcgahdgpmhaaDoor.Whl

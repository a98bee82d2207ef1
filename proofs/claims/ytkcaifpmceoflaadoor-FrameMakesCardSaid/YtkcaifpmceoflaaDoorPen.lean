/- A pen in memory: the bytes that it has written; the walks through its methods. Conditions: those that each statement names. -/
import Derived.Test.YtkcaifpmceoflaaDoorOwnx0
import Derived.OneCell
import Derived.Deep.RegionHeldLaw
namespace Go.Proofs.YtkcaifpmceoflaaDoor.Frm
open Go.RowKit Go.Proofs.YtkcaifpmceoflaaDoorW.PrintWords Go.Proofs.YtkcaifpmceoflaaDoorW.PrintLast Go.Proofs.YtkcaifpmceoflaaDoorW.PrintMore
set_option linter.unusedVariables false
theorem info5 : (Tryd.prog.info? 5).map (fun i => (i.zero, i.size, i.bytes)) = some (some (.int .u8 0), 1, 1) := by kernel_rfl
structure Pen (w : World) (B g : Nat) (xs : List Int) : Prop where
  at_ : ∃ v, w.heap[g]? = some (.cells #[v] 72 (0, 0)) ∧ w.ownsRow B 5 1 v xs.length (nums .u8 xs)
  lo : B ≤ g
  sz : B ≤ w.heap.size
theorem Pen.move {w w' : World} {B g : Nat} {xs : List Int} (h : Pen w B g xs) (hm : ∀ k, B ≤ k → k < w.heap.size → w'.heap[k]? = w.heap[k]?) (hs : w.heap.size ≤ w'.heap.size) : Pen w' B g xs := by
  obtain ⟨⟨v, h1, h2⟩, h3, h4⟩ := h
  exact ⟨⟨v, (hm g h3 (lt_of_block h1)).trans h1, own_move h2 fun k hk => hm k (own_base h2 k hk) (own_lt h2 k hk)⟩, h3, Nat.le_trans h4 hs⟩
theorem Pen.drawn {w w' : World} {B g : Nat} {xs : List Int} (h : Pen w B g xs) (d : Drawn0 w w') : Pen w' B g xs := by
  obtain ⟨n, rfl⟩ := d
  obtain ⟨⟨v, h1, h2⟩, h3, h4⟩ := h
  exact ⟨⟨v, h1, own_move h2 fun _ _ => rfl⟩, h3, h4⟩
theorem pen_new (w : World) :
    Calls Tryd.prog 21 #[] w fun e w' => e = .returned (.pointer (some ⟨w.heap.size, 0, none⟩)) ∧ Pen w' w.heap.size w.heap.size [] ∧ Below w.heap.size w w' := by
  go_enter Tryd.func21, Tryd.ntmps21
  go_wp2
  go_ret
  refine ⟨rfl, ⟨⟨.slice none 0 0, ?_, ?_⟩, Nat.le_refl _, ?_⟩, (Below.refl _ w).alloc (Nat.le_refl _) _⟩
  · rw [show (w.alloc (.cells #[.slice none 0 0] 72)).heap = w.heap.push (.cells #[.slice none 0 0] 72) from rfl, Array.getElem?_push, if_pos rfl]
  · exact ⟨rfl, .inl ⟨rfl, rfl⟩⟩
  · rw [show (w.alloc (.cells #[.slice none 0 0] 72)).heap = w.heap.push (.cells #[.slice none 0 0] 72) from rfl, Array.size_push]
    omega
theorem Pen.ne {w : World} {B g : Nat} {v : Value} {n : Nat} {xs : List Value} (h1 : w.heap[g]? = some (.cells #[v] 72 (0, 0))) (h2 : w.ownsRow B 5 1 v n xs) : v.ownBlock ≠ some g := by
  intro hv
  obtain ⟨cells, hc⟩ := own_typed h2 g hv
  rw [h1] at hc
  injection hc with hc
  injection hc with _ hc
  cases hc
/-- What an append into the pen's slice, and the store of it, leave. -/
theorem Pen.wrote {W w1 : World} {B g : Nat} {v v1 : Value} {xs : List Int} {n : Nat} (lo : B ≤ g) (h1 : W.heap[g]? = some (.cells #[v] 72 (0, 0))) (hne : v.ownBlock ≠ some g)
    (hg : W.grownBy w1 v.ownBlock) (hB : B ≤ W.heap.size) (ho : w1.ownsRow B 5 1 v1 n (nums .u8 xs)) (hn : n = xs.length) : w1.cell? ⟨g, 0, none⟩ = some v ∧ w1.frozen? ⟨g, 0, none⟩ = false ∧ Pen (w1.setCell ⟨g, 0, none⟩ v1) B g xs := by
  have e : w1.heap[g]? = some (.cells #[v] 72 (0, 0)) := by rw [hg.block g (lt_of_block h1) (fun e => hne e.symm)]; exact h1
  subst hn
  refine ⟨cell_of_one e, free_of_one e, ⟨⟨v1, one_setCell e, ownsRow_setCell_other ho (fun hv => ?_) v1⟩, lo, ?_⟩⟩
  · obtain ⟨cells, hc⟩ := own_typed ho g hv
    rw [e] at hc
    injection hc with hc
    injection hc with _ hc
    cases hc
  · rw [World.size_setCell]
    exact Nat.le_trans hB hg.size
/-- But for block g, and for rows of bytes, what was is as it was. -/
def Keep (g : Nat) (w w' : World) : Prop := ∀ k cs t fr, w.heap[k]? = some (.cells cs t fr) → t ≠ 5 → k ≠ g → w'.heap[k]? = some (.cells cs t fr)
theorem Keep.refl (g : Nat) (w : World) : Keep g w w := fun _ _ _ _ h _ _ => h
theorem Keep.trans {g : Nat} {a b c : World} (h : Keep g a b) (k : Keep g b c) : Keep g a c := fun i cs t fr hi h5 hg => k i cs t fr (h i cs t fr hi h5 hg) h5 hg
theorem Keep.below {g : Nat} {w w' : World} (h : Below w.heap.size w w') : Keep g w w' := fun k cs t fr hk _ _ => by rw [h.block k (lt_of_block hk)]; exact hk
theorem Keep.grown {g B n : Nat} {w w' : World} {v : Value} {xs : List Value} (h : w.grownBy w' v.ownBlock) (ho : w.ownsRow B 5 1 v n xs) : Keep g w w' := fun k cs t fr hk h5 _ => by
  rw [h.block k (lt_of_block hk) (fun e => ?_)]
  · exact hk
  · obtain ⟨cells, hc⟩ := own_typed ho k e.symm
    rw [hk] at hc
    injection hc with hc
    injection hc with _ hc
    exact h5 hc
theorem Keep.set (g : Nat) (w : World) (v : Value) : Keep g w (w.setCell ⟨g, 0, none⟩ v) := fun k cs t fr hk _ hg => by
  rw [Below.heap_setCell _ _ _ _ hg]
  exact hk
theorem size_alloc_ (w : World) (o : Obj) : (w.alloc o).heap.size = w.heap.size + 1 := by
  rw [show (w.alloc o).heap = w.heap.push o from rfl, Array.size_push]
theorem old_alloc (w : World) (o : Obj) {g : Nat} {b : Obj} (h : w.heap[g]? = some b) : (w.alloc o).heap[g]? = some b := by
  rw [show (w.alloc o).heap = w.heap.push o from rfl, Array.getElem?_push, if_neg (by have := lt_of_block h; omega)]
  exact h
theorem one_new (w : World) (n : Int) : ∀ (j : Nat) (u : Value), [Value.int .u8 n][j]? = some u → (w.alloc (.cells #[.int .u8 n] 5)).cell? ((⟨w.heap.size, 0, none⟩ : Addr).add j) = some u := by
  intro j u hu
  rcases j with _ | j
  · have hb : (w.alloc (.cells #[.int .u8 n] 5)).heap[w.heap.size]? = some (.cells #[.int .u8 n] 5) := by
      rw [show (w.alloc (.cells #[.int .u8 n] 5)).heap = w.heap.push (.cells #[.int .u8 n] 5) from rfl, Array.getElem?_push, if_pos rfl]
    exact (blk_cell hb 0).trans hu
  · simp at hu
theorem pen_Byte (w : World) (B g : Nat) (n : Int) (xs : List Int) (h : Pen w B g xs) (hl : xs.length ≤ 1000000) :
    Calls Tryd.prog 22 #[.pointer (some ⟨g, 0, none⟩), .int .u8 n] w fun e w' => e = .returned (.pointer (some ⟨g, 0, none⟩)) ∧ Pen w' B g (xs ++ [n]) ∧ Below B w w' ∧ Keep g w w' := by
  obtain ⟨⟨v, h1, h2⟩, lo, hsz⟩ := h
  obtain ⟨A, c, rfl⟩ := own_slice h2
  have hne := Pen.ne h1 h2
  have hc := cell_of_one h1
  have hf := free_of_one h1
  obtain ⟨i0, hi, hz0⟩ := Option.map_eq_some_iff.1 info5
  simp only [Prod.mk.injEq] at hz0
  obtain ⟨hz0, hz1, hz2⟩ := hz0
  have H1 := Aside0.mk h1
  have H2 := Aside0.mk h2
  have HL := Aside0.mk (And.intro hl (And.intro lo hsz))
  have HI := Aside0.mk (And.intro hi (And.intro hz0 (And.intro hz1 hz2)))
  have HN := Aside0.mk hne
  clear h1 h2 hl lo hsz hi hz0 hz1 hz2 hne
  go_enter Tryd.func22, Tryd.ntmps22
  go_wp2_with (at_builtin; (refine wpList_append_own _ rfl _ _ 42 rfl B 5 i0 (.int .u8 0) 1 1 Tryd.underlying42 HI.out.1 HI.out.2.1 HI.out.2.2.1 HI.out.2.2.2 rfl (by decide) _ _ _ rfl (H2.out.alloc _) ⟨w.heap.size, 0, none⟩ 1 1 [.int .u8 n] rfl rfl ?c1 ?c2 ?c3 ?c4 ?c5 ?_); (case c1 => exact one_new w n); (case c2 => intro u hu; rw [List.mem_singleton.1 hu]; rfl); (case c3 => have := HL.out; unfold maxLen; omega); (case c4 => have := HL.out; omega); (case c5 => have := HL.out; rw [size_alloc_]; omega); (intro v1 w1 ho hg _); (obtain ⟨A1, cap1, e1_⟩ := own_slice ho); (subst e1_); (obtain ⟨k1, k2, k3⟩ := Pen.wrote (xs := xs ++ [n]) HL.out.2.1 (old_alloc w _ H1.out) HN.out hg (by have := HL.out; rw [size_alloc_]; omega) (by rw [nums_append]; exact ho) (by simp)); (have HP := Aside0.mk k3; have HB := Aside0.mk ((((Below.refl B w).alloc HL.out.2.2 _).grown hg (by have := HL.out; rw [size_alloc_]; omega) (own_base H2.out)).setCell HL.out.2.1 (.slice A1 (xs.length + 1) cap1) (p := ⟨g, 0, none⟩)); have HK := Aside0.mk (((Keep.below ((Below.refl _ w).alloc (Nat.le_refl _) _)).trans (Keep.grown hg (H2.out.alloc (.cells #[.int .u8 n] 5)))).trans (Keep.set g w1 (.slice A1 (xs.length + 1) cap1))); clear ho hg k3 hc hf))
  go_ret
  exact ⟨rfl, HP.out, HB.out, HK.out⟩
theorem pen_Two (w : World) (B g : Nat) (n : Int) (xs : List Int) (h : Pen w B g xs) (hl : xs.length ≤ 900000) :
    Calls Tryd.prog 23 #[.pointer (some ⟨g, 0, none⟩), .int .u16 n] w fun e w' => e = .returned (.pointer (some ⟨g, 0, none⟩)) ∧ Pen w' B g (xs ++ [n / 256 % 256] ++ [n % 256]) ∧ Below B w w' ∧ Keep g w w' := by
  have HP := Aside0.mk h
  have HB := Aside0.mk (Below.refl B w)
  have HK := Aside0.mk (Keep.refl g w)
  have HL := Aside0.mk hl
  clear h hl
  go_enter Tryd.func23, Tryd.ntmps23
  go_wp2_with (first | (go_at_call 22; (with_reducible refine (pen_Byte _ B g (n / 256 % 256) xs HP.out (by have := HL.out; omega)).mono ?_); rintro e w' ⟨rfl, hp, hb, hk⟩; have n0_ := Aside0.mk hp; have n1_ := Aside0.mk (HB.out.trans hb); have n2_ := Aside0.mk (HK.out.trans hk); clear HP HB HK hp hb hk; have HP := n0_; have HB := n1_; have HK := n2_; clear n0_ n1_ n2_) | (go_at_call 22; (with_reducible refine (pen_Byte _ B g (n % 256) _ HP.out (by have := HL.out; simp only [List.length_append, List.length_cons, List.length_nil]; omega)).mono ?_); rintro e w' ⟨rfl, hp, hb, hk⟩; have n0_ := Aside0.mk hp; have n1_ := Aside0.mk (HB.out.trans hb); have n2_ := Aside0.mk (HK.out.trans hk); clear HP HB HK hp hb hk; have HP := n0_; have HB := n1_; have HK := n2_; clear n0_ n1_ n2_))
  go_ret
  exact ⟨rfl, HP.out, HB.out, HK.out⟩
theorem pen_Four (w : World) (B g : Nat) (n : Int) (xs : List Int) (h : Pen w B g xs) (hl : xs.length ≤ 800000) :
    Calls Tryd.prog 25 #[.pointer (some ⟨g, 0, none⟩), .int .u32 n] w fun e w' => e = .returned (.pointer (some ⟨g, 0, none⟩)) ∧ Pen w' B g (xs ++ [IntKind.u16.wrap (n / 65536) / 256 % 256] ++ [IntKind.u16.wrap (n / 65536) % 256] ++ [IntKind.u16.wrap n / 256 % 256] ++ [IntKind.u16.wrap n % 256]) ∧ Below B w w' ∧ Keep g w w' := by
  have HP := Aside0.mk h
  have HB := Aside0.mk (Below.refl B w)
  have HK := Aside0.mk (Keep.refl g w)
  have HL := Aside0.mk hl
  clear h hl
  go_enter Tryd.func25, Tryd.ntmps25
  go_wp2_with (first | (go_at_call 23; (with_reducible refine (pen_Two _ B g (IntKind.u16.wrap (n / 65536)) xs HP.out (by have := HL.out; omega)).mono ?_); rintro e w' ⟨rfl, hp, hb, hk⟩; have n0_ := Aside0.mk hp; have n1_ := Aside0.mk (HB.out.trans hb); have n2_ := Aside0.mk (HK.out.trans hk); clear HP HB HK hp hb hk; have HP := n0_; have HB := n1_; have HK := n2_; clear n0_ n1_ n2_) | (go_at_call 23; (with_reducible refine (pen_Two _ B g (IntKind.u16.wrap n) _ HP.out (by have := HL.out; simp only [List.length_append, List.length_cons, List.length_nil]; omega)).mono ?_); rintro e w' ⟨rfl, hp, hb, hk⟩; have n0_ := Aside0.mk hp; have n1_ := Aside0.mk (HB.out.trans hb); have n2_ := Aside0.mk (HK.out.trans hk); clear HP HB HK hp hb hk; have HP := n0_; have HB := n1_; have HK := n2_; clear n0_ n1_ n2_))
  go_ret
  exact ⟨rfl, HP.out, HB.out, HK.out⟩
theorem pen_Text (w : World) (B g : Nat) (y : ByteArray) (xs : List Int) (h : Pen w B g xs) (hl : xs.length ≤ 900000) (hy : y.size ≤ 1000000) :
    Calls Tryd.prog 26 #[.pointer (some ⟨g, 0, none⟩), .string y] w fun e w' => e = .returned (.pointer (some ⟨g, 0, none⟩)) ∧ Pen w' B g (xs ++ bytesOf y) ∧ Below B w w' ∧ Keep g w w' := by
  obtain ⟨⟨v, h1, h2⟩, lo, hsz⟩ := h
  obtain ⟨A, c, rfl⟩ := own_slice h2
  have hne := Pen.ne h1 h2
  have hc := cell_of_one h1
  have hf := free_of_one h1
  have H1 := Aside0.mk h1
  have H2 := Aside0.mk h2
  have HL := Aside0.mk (And.intro hl (And.intro lo (And.intro hsz hy)))
  have HN := Aside0.mk hne
  clear h1 h2 hl lo hsz hne hy
  go_enter Tryd.func26, Tryd.ntmps26
  go_wp2_with (at_builtin; (refine print_append_str (w0 := w) B rfl (.tmp 11) (.tmp 12) 42 9 5 rfl Tryd.underlying42 Tryd.underlying9 info5 (.slice A xs.length c) xs y rfl rfl H2.out (Below.refl _ _) HL.out.2.2.1 (by have := HL.out; omega) ?_); (intro v1 w1 ho hb hg); (rw [List.length_append, bytesOf_length] at ho); (obtain ⟨A1, cap1, e1_⟩ := own_slice ho); (subst e1_); (obtain ⟨k1, k2, k3⟩ := Pen.wrote (xs := xs ++ bytesOf y) HL.out.2.1 H1.out HN.out hg HL.out.2.2.1 ho (by rw [List.length_append, bytesOf_length])); (have HP := Aside0.mk k3; have HB := Aside0.mk (hb.setCell HL.out.2.1 (.slice A1 (xs.length + y.size) cap1) (p := ⟨g, 0, none⟩)); have HK := Aside0.mk ((Keep.grown (g := g) hg H2.out).trans (Keep.set g w1 (.slice A1 (xs.length + y.size) cap1))); clear ho hg hb k3 hc hf))
  go_ret
  exact ⟨rfl, HP.out, HB.out, HK.out⟩
theorem pen_String (w : World) (B g : Nat) (xs : List Int) (h : Pen w B g xs) :
    Calls Tryd.prog 28 #[.pointer (some ⟨g, 0, none⟩)] w fun e w' => e = .returned (.string (strOfNums xs)) ∧ w' = w := by
  obtain ⟨⟨v, h1, h2⟩, lo, hsz⟩ := h
  obtain ⟨A, c, rfl⟩ := own_slice h2
  have hc := cell_of_one h1
  have hv := own_string (P := Tryd.prog) Tryd.underlying42 Tryd.underlying5 Tryd.underlying9 h2
  clear h1 h2 lo hsz
  go_enter Tryd.func28, Tryd.ntmps28
  go_wp2
  go_ret
  exact ⟨rfl, rfl⟩
def two (n : Int) : List Int := [n / 256 % 256, n % 256]
theorem three_ (w : World) (x y z : Value) (t : TypeId) : (w.alloc (.cells #[x, y, z] t)).heap[w.heap.size]? = some (.cells #[x, y, z] t (0, 0)) := by
  rw [show (w.alloc (.cells #[x, y, z] t)).heap = w.heap.push (.cells #[x, y, z] t) from rfl, Array.getElem?_push, if_pos rfl]
set_option maxHeartbeats 1000000 in
theorem pen_put (w : World) (B g : Nat) (c a i : Int) (xs : List Int) (h : Pen w B g xs) (hl : xs.length ≤ 800000) (hg : g < w.heap.size) :
    Calls Tryd.prog 24 #[.pointer (some ⟨g, 0, none⟩), .agg #[.int .u16 c, .int .u8 a, .int .u16 i]] w fun e w' => e = .returned (.tuple #[]) ∧ Pen w' B g (xs ++ two c ++ [a] ++ two i) ∧ Below B w w' := by
  have HL := Aside0.mk hl
  have hn := three_ w (.int .u16 c) (.int .u8 a) (.int .u16 i) 24
  have hb := (Below.refl w.heap.size w).alloc (Nat.le_refl _) (.cells #[.int .u16 c, .int .u8 a, .int .u16 i] 24)
  have HP := Aside0.mk (h.move (fun k hk hlt => hb.block k hlt) hb.size)
  have HB := Aside0.mk (hb.mono h.sz)
  have HE := Aside0.mk (show w.heap.size ≠ g by omega)
  have HN := Aside0.mk hn
  clear h hl hg hb hn
  go_enter Tryd.func24, Tryd.ntmps24
  go_wp2_with fail
  generalize w.alloc (.cells #[.int .u16 c, .int .u8 a, .int .u16 i] 24) = W0 at *
  generalize w.heap.size = E at *
  have m0_ := Aside0.mk (HP.out.drawn (w' := W0.drew) ⟨1, rfl⟩)
  have m1_ := Aside0.mk (HB.out.trans (show Below B W0 W0.drew from ⟨rfl, rfl, rfl, Nat.le_refl _, fun _ _ => rfl⟩))
  have m2_ := Aside0.mk (show W0.drew.heap[E]? = some (.cells #[.int .u16 c, .int .u8 a, .int .u16 i] 24 (0, 0)) from HN.out)
  clear HP HB HN
  have HP := m0_
  have HB := m1_
  have HN := m2_
  clear m0_ m1_ m2_
  go_region_held_law (fun w' => w'.cell? ⟨E, 0, none⟩ = some (.int .u16 c) ∧ w'.cell? ⟨E, 1, none⟩ = some (.int .u8 a) ∧ w'.cell? ⟨E, 2, none⟩ = some (.int .u16 i)) (exact ⟨blk_cell HN.out 0, blk_cell HN.out 1, blk_cell HN.out 2⟩) (first
    | (go_at_call 23; (with_reducible refine (pen_Two _ B g c xs HP.out (by have := HL.out; omega)).mono ?_); rintro e w' ⟨rfl, hp, hb, hk⟩; have n0_ := Aside0.mk hp; have n1_ := Aside0.mk (HB.out.trans hb); have n2_ := Aside0.mk (hk _ _ _ _ HN.out (by decide) HE.out); clear HP HB HN hp hb hk; have HP := n0_; have HB := n1_; have HN := n2_; clear n0_ n1_ n2_)
    | (go_at_call 22; (with_reducible refine (pen_Byte _ B g a _ HP.out (by have := HL.out; simp only [List.length_append, List.length_cons, List.length_nil]; omega)).mono ?_); rintro e w' ⟨rfl, hp, hb, hk⟩; have n0_ := Aside0.mk hp; have n1_ := Aside0.mk (HB.out.trans hb); have n2_ := Aside0.mk (hk _ _ _ _ HN.out (by decide) HE.out); clear HP HB HN hp hb hk; have HP := n0_; have HB := n1_; have HN := n2_; clear n0_ n1_ n2_)
    | (go_at_call 23; (with_reducible refine (pen_Two _ B g i _ HP.out (by have := HL.out; simp only [List.length_append, List.length_cons, List.length_nil]; omega)).mono ?_); rintro e w' ⟨rfl, hp, hb, hk⟩; have n0_ := Aside0.mk hp; have n1_ := Aside0.mk (HB.out.trans hb); have n2_ := Aside0.mk (hk _ _ _ _ HN.out (by decide) HE.out); clear HP HB HN hp hb hk; have HP := n0_; have HB := n1_; have HN := n2_; clear n0_ n1_ n2_))
  go_end0
  have e : xs ++ [c / 256 % 256] ++ [c % 256] ++ [a] ++ [i / 256 % 256] ++ [i % 256] = xs ++ two c ++ [a] ++ two i := by simp [two]
  exact ⟨rfl, e ▸ HP.out, HB.out⟩
end Go.Proofs.YtkcaifpmceoflaaDoor.Frm

/- A frame as a record, its cells in memory; the walks of frame.Right and frame.Size. Conditions: those that each statement names. -/
import Derived.Test.YtkcaifpmceoflaaDoorPen
import Derived.Test.YtkcaifpmceoflaaDoorOwnx3
import Derived.Test.YtkcaifpmceoflaaDoorOwnx4
import Derived.Lib.Strings
namespace Go.Proofs.YtkcaifpmceoflaaDoor.Frm
open Go.RowKit Go.Proofs.YtkcaifpmceoflaaDoorW.PrintWords Go.Proofs.YtkcaifpmceoflaaDoorW.PrintLast Go.Proofs.YtkcaifpmceoflaaDoorW.PrintMore
attribute [local go_sem] max2_int min2_int max_two min_two max_three min_three max_four min_four
set_option linter.unusedVariables false
structure Fr where
  kind : Int
  src : Int
  dst : Int
  sinc : Int
  dinc : Int
  ec : Int
  ea : Int
  ei : Int
  hop : Int
  hc : Int
  ha : Int
  hi : Int
  wants : Bool
  blk : Int
  vinc : Int
  vseq : Int
  part : Int
  parts : Int
  bytes : ByteArray
abbrev FC (f : Fr) : Array Value := #[.int .i64 f.kind, .int .u8 f.src, .int .u8 f.dst, .int .u16 f.sinc, .int .u16 f.dinc, .int .u16 f.ec, .int .u8 f.ea, .int .u16 f.ei, .int .u16 f.hop, .int .u16 f.hc, .int .u8 f.ha, .int .u16 f.hi, .bool f.wants, .int .u8 f.blk, .int .u16 f.vinc, .int .u32 f.vseq, .int .u8 f.part, .int .u8 f.parts, .string f.bytes]
def FAt (w : World) (E : Nat) (f : Fr) : Prop := w.heap[E]? = some (.cells (FC f) 29 (0, 0))
theorem FAt.lt {w : World} {E : Nat} {f : Fr} (h : FAt w E f) : E < w.heap.size := lt_of_block h
theorem FAt.on {w w' : World} {E B : Nat} {f : Fr} (h : FAt w E f) (hb : Below B w w') (hE : E < B) : FAt w' E f := (hb.block E hE).trans h
theorem FAt.new (w : World) (f : Fr) : FAt (w.alloc (.cells (FC f) 29)) w.heap.size f := by
  unfold FAt
  rw [show (w.alloc (.cells (FC f) 29)).heap = w.heap.push (.cells (FC f) 29) from rfl, Array.getElem?_push, if_pos rfl]
theorem FAt.cells {w : World} {E : Nat} {f : Fr} (h : FAt w E f) : w.cell? ⟨E, 0, none⟩ = some (.int .i64 f.kind) ∧ w.cell? ⟨E, 1, none⟩ = some (.int .u8 f.src) ∧ w.cell? ⟨E, 2, none⟩ = some (.int .u8 f.dst) ∧ w.cell? ⟨E, 3, none⟩ = some (.int .u16 f.sinc) ∧ w.cell? ⟨E, 4, none⟩ = some (.int .u16 f.dinc) ∧ w.cell? ⟨E, 5, none⟩ = some (.int .u16 f.ec) ∧ w.cell? ⟨E, 6, none⟩ = some (.int .u8 f.ea) ∧ w.cell? ⟨E, 7, none⟩ = some (.int .u16 f.ei) ∧ w.cell? ⟨E, 8, none⟩ = some (.int .u16 f.hop) ∧ w.cell? ⟨E, 9, none⟩ = some (.int .u16 f.hc) ∧ w.cell? ⟨E, 10, none⟩ = some (.int .u8 f.ha) ∧ w.cell? ⟨E, 11, none⟩ = some (.int .u16 f.hi) ∧ w.cell? ⟨E, 12, none⟩ = some (.bool f.wants) ∧ w.cell? ⟨E, 13, none⟩ = some (.int .u8 f.blk) ∧ w.cell? ⟨E, 14, none⟩ = some (.int .u16 f.vinc) ∧ w.cell? ⟨E, 15, none⟩ = some (.int .u32 f.vseq) ∧ w.cell? ⟨E, 16, none⟩ = some (.int .u8 f.part) ∧ w.cell? ⟨E, 17, none⟩ = some (.int .u8 f.parts) ∧ w.cell? ⟨E, 18, none⟩ = some (.string f.bytes) :=
  ⟨blk_cell h 0, blk_cell h 1, blk_cell h 2, blk_cell h 3, blk_cell h 4, blk_cell h 5, blk_cell h 6, blk_cell h 7, blk_cell h 8, blk_cell h 9, blk_cell h 10, blk_cell h 11, blk_cell h 12, blk_cell h 13, blk_cell h 14, blk_cell h 15, blk_cell h 16, blk_cell h 17, blk_cell h 18⟩
theorem FAt.alloc {w : World} {E : Nat} {f : Fr} (h : FAt w E f) (o : Obj) : FAt (w.alloc o) E f := old_alloc w o h
theorem FAt.cellsA {w : World} {E : Nat} {f : Fr} (h : FAt w E f) : (∀ o : Obj, (w.alloc o).cell? ⟨E, 0, none⟩ = some (.int .i64 f.kind)) ∧ (∀ o : Obj, (w.alloc o).cell? ⟨E, 1, none⟩ = some (.int .u8 f.src)) ∧ (∀ o : Obj, (w.alloc o).cell? ⟨E, 2, none⟩ = some (.int .u8 f.dst)) ∧ (∀ o : Obj, (w.alloc o).cell? ⟨E, 3, none⟩ = some (.int .u16 f.sinc)) ∧ (∀ o : Obj, (w.alloc o).cell? ⟨E, 4, none⟩ = some (.int .u16 f.dinc)) ∧ (∀ o : Obj, (w.alloc o).cell? ⟨E, 5, none⟩ = some (.int .u16 f.ec)) ∧ (∀ o : Obj, (w.alloc o).cell? ⟨E, 6, none⟩ = some (.int .u8 f.ea)) ∧ (∀ o : Obj, (w.alloc o).cell? ⟨E, 7, none⟩ = some (.int .u16 f.ei)) ∧ (∀ o : Obj, (w.alloc o).cell? ⟨E, 8, none⟩ = some (.int .u16 f.hop)) ∧ (∀ o : Obj, (w.alloc o).cell? ⟨E, 9, none⟩ = some (.int .u16 f.hc)) ∧ (∀ o : Obj, (w.alloc o).cell? ⟨E, 10, none⟩ = some (.int .u8 f.ha)) ∧ (∀ o : Obj, (w.alloc o).cell? ⟨E, 11, none⟩ = some (.int .u16 f.hi)) ∧ (∀ o : Obj, (w.alloc o).cell? ⟨E, 12, none⟩ = some (.bool f.wants)) ∧ (∀ o : Obj, (w.alloc o).cell? ⟨E, 13, none⟩ = some (.int .u8 f.blk)) ∧ (∀ o : Obj, (w.alloc o).cell? ⟨E, 14, none⟩ = some (.int .u16 f.vinc)) ∧ (∀ o : Obj, (w.alloc o).cell? ⟨E, 15, none⟩ = some (.int .u32 f.vseq)) ∧ (∀ o : Obj, (w.alloc o).cell? ⟨E, 16, none⟩ = some (.int .u8 f.part)) ∧ (∀ o : Obj, (w.alloc o).cell? ⟨E, 17, none⟩ = some (.int .u8 f.parts)) ∧ (∀ o : Obj, (w.alloc o).cell? ⟨E, 18, none⟩ = some (.string f.bytes)) :=
  ⟨fun o => blk_cell (h.alloc o) 0, fun o => blk_cell (h.alloc o) 1, fun o => blk_cell (h.alloc o) 2, fun o => blk_cell (h.alloc o) 3, fun o => blk_cell (h.alloc o) 4, fun o => blk_cell (h.alloc o) 5, fun o => blk_cell (h.alloc o) 6, fun o => blk_cell (h.alloc o) 7, fun o => blk_cell (h.alloc o) 8, fun o => blk_cell (h.alloc o) 9, fun o => blk_cell (h.alloc o) 10, fun o => blk_cell (h.alloc o) 11, fun o => blk_cell (h.alloc o) 12, fun o => blk_cell (h.alloc o) 13, fun o => blk_cell (h.alloc o) 14, fun o => blk_cell (h.alloc o) 15, fun o => blk_cell (h.alloc o) 16, fun o => blk_cell (h.alloc o) 17, fun o => blk_cell (h.alloc o) 18⟩
theorem FAt.frees {w : World} {E : Nat} {f : Fr} (h : FAt w E f) (j : Nat) : w.frozen? ⟨E, j, none⟩ = false := by
  unfold FAt at h
  simp only [World.frozen?, h]
  simp
/-- May a frame be, but for its kind's own and its addresses? -/
def bare (f : Fr) : Bool :=
  if f.kind ≠ 3 ∧ (f.hc ≠ 0 ∨ f.ha ≠ 0 ∨ f.hi ≠ 0 ∨ f.wants = true) then false
  else if f.kind = 4 then decide (f.blk < 16 ∧ 1 ≤ f.parts ∧ f.parts ≤ 4 ∧ f.part < f.parts ∧ 1 ≤ f.bytes.size ∧ f.bytes.size ≤ 16)
  else decide (f.blk = 0 ∧ f.vinc = 0 ∧ f.vseq = 0 ∧ f.part = 0 ∧ f.parts = 0 ∧ f.bytes.size = 0)
theorem toList_nil (s : ByteArray) : (s.toList == ([] : List UInt8)) = decide (s.size = 0) := by
  rw [Lib.toList_data, Bool.eq_iff_iff, beq_iff_eq, decide_eq_true_eq]
  constructor
  · intro h
    have h2 := congrArg List.length h
    rwa [Array.length_toList] at h2
  · intro h
    apply List.eq_nil_of_length_eq_zero
    rw [Array.length_toList]
    exact h
theorem bare_eq (f : Fr) : Own.frame_bare.f 1 f.kind f.src f.dst f.sinc f.dinc f.ec f.ea f.ei f.hop f.hc f.ha f.hi f.wants f.blk f.vinc f.vseq f.part f.parts f.bytes = some (bare f) := by
  have hb : (!(f.hc == 0) || (!(f.ha == 0) || (!(f.hi == 0)))) = decide (f.hc ≠ 0 ∨ f.ha ≠ 0 ∨ f.hi ≠ 0) := by
    rw [Bool.eq_iff_iff]
    simp
  have hv : (f.vinc == 0 && (f.vseq == 0)) = decide (f.vinc = 0 ∧ f.vseq = 0) := by
    rw [Bool.eq_iff_iff]
    simp
  have tl : ∀ k : Bool, Own.frame_bare.j0 1 k f.kind f.src f.dst f.sinc f.dinc f.ec f.ea f.ei f.hop f.hc f.ha f.hi f.wants f.blk f.vinc f.vseq f.part f.parts f.bytes = some (if k = true then false else if f.kind = 4 then decide (f.blk < 16 ∧ 1 ≤ f.parts ∧ f.parts ≤ 4 ∧ f.part < f.parts ∧ 1 ≤ f.bytes.size ∧ f.bytes.size ≤ 16) else decide (f.blk = 0 ∧ f.vinc = 0 ∧ f.vseq = 0 ∧ f.part = 0 ∧ f.parts = 0 ∧ f.bytes.size = 0)) := by
    intro k
    simp only [Own.frame_bare.j0, toList_nil, hv]
    by_cases hk : k = true
    · rw [if_pos hk, if_pos hk]
    · rw [if_neg hk, if_neg hk]
      by_cases h4 : f.kind = 4
      · rw [if_pos h4, if_pos h4]
        repeat' split
        all_goals (congr 1; rw [Bool.eq_iff_iff]; simp only [decide_eq_true_eq, Bool.false_eq_true, false_iff]; omega)
      · rw [if_neg h4, if_neg h4]
        repeat' split
        all_goals (congr 1; rw [Bool.eq_iff_iff]; simp only [decide_eq_true_eq, Bool.false_eq_true, false_iff] at *; omega)
  unfold Own.frame_bare.f bare
  rw [hb]
  by_cases h3 : f.kind = 3
  · rw [if_pos h3, tl false, if_neg (by decide), if_neg (fun h : f.kind ≠ 3 ∧ _ => h.1 h3)]
  · rw [if_neg h3]
    by_cases hz : f.hc ≠ 0 ∨ f.ha ≠ 0 ∨ f.hi ≠ 0
    · rw [if_pos (decide_eq_true hz), tl true, if_pos rfl, if_pos (⟨h3, by omega⟩ : f.kind ≠ 3 ∧ _)]
    · rw [if_neg (by rw [decide_eq_false hz]; decide), tl f.wants]
      by_cases hw : f.wants = true
      · rw [if_pos hw, if_pos (⟨h3, .inr (.inr (.inr hw))⟩ : f.kind ≠ 3 ∧ _)]
      · rw [if_neg hw, if_neg (show ¬ (f.kind ≠ 3 ∧ (f.hc ≠ 0 ∨ f.ha ≠ 0 ∨ f.hi ≠ 0 ∨ f.wants = true)) from fun h => by rcases h.2 with h | h | h | h; (exact hz (.inl h)); (exact hz (.inr (.inl h))); (exact hz (.inr (.inr h))); exact hw h)]
def kindok (k : Int) : Bool := decide (1 ≤ k ∧ k ≤ 5)
def top (f : Fr) : Int := mx (mx (mx f.src f.dst) f.ea) f.ha
def right (f : Fr) : Bool := kindok f.kind && (decide (f.kind ≠ 4) || decide (f.dst = 0 ∧ f.dinc = 0)) && decide (top f < 32) && bare f
theorem bare_f (w : World) (f : Fr) : Calls Tryd.prog 30 #[.agg (FC f)] w fun e w' => e = .returned (.bool (bare f)) ∧ Below w.heap.size w w' :=
  Own.frame_bare.calls 1 f.kind f.src f.dst f.sinc f.dinc f.ec f.ea f.ei f.hop f.hc f.ha f.hi f.wants f.blk f.vinc f.vseq f.part f.parts f.bytes (bare f) w (bare_eq f)
theorem shapes_f (k : Int) (w : World) (n : ByteArray) (t : Bool) (a b : Int) (o : Bool) (h : Own.frame_shapes.f k = some (n, t, a, b, o)) :
    Calls Tryd.prog 29 #[.int .i64 k] w fun e w' => e = .returned (.tuple #[.agg #[.string n, .bool t, .int .i64 a, .int .i64 b], .bool o]) ∧ Below w.heap.size w w' :=
  Own.frame_shapes.calls k n t a b o w h
set_option maxHeartbeats 1000000 in
theorem right_no (w : World) (f : Fr) (h : kindok f.kind = false) :
    Calls Tryd.prog 11 #[.agg (FC f)] w fun e w' => e = .returned (.bool false) ∧ Below w.heap.size w w' := by
  have hs : Own.frame_shapes.f f.kind = some (⟨#[63]⟩, true, 0, 0, false) := by
    have h := of_decide_eq_false h
    unfold Own.frame_shapes.f
    rw [if_neg (by omega), if_neg (by omega), if_neg (by omega), if_neg (by omega), if_neg (by omega)]
  have HSH := Aside0.mk fun W : World => shapes_f f.kind W _ _ _ _ _ hs
  have HN := Aside0.mk (FAt.new w f)
  have HB := Aside0.mk ((Below.refl w.heap.size w).alloc (Nat.le_refl _) (.cells (FC f) 29))
  clear h hs
  go_enter Tryd.func11, Tryd.ntmps11
  go_upto_region 1 with (fail)
  generalize w.alloc (.cells (FC f) 29) = W0 at *
  generalize hEq : w.heap.size = E at *
  have HSZ := Aside0.mk hEq
  clear hEq
  have HE := Aside0.mk HN.out.lt
  obtain ⟨c0, c1, c2, c3, c4, c5, c6, c7, c8, c9, c10, c11, c12, c13, c14, c15, c16, c17, c18⟩ := HN.out.cells
  go_wp2_with (go_at_call 29; (with_reducible refine (HSH.out _).mono ?_); rintro e w1 ⟨rfl, hb⟩; have n0_ := Aside0.mk (HN.out.on hb HE.out); have n1_ := Aside0.mk (HB.out.trans (hb.mono (Nat.le_of_lt HE.out))); have n2_ := Aside0.mk (Nat.lt_of_lt_of_le HE.out hb.size); clear HN HB HE hb c0 c1 c2 c3 c4 c5 c6 c7 c8 c9 c10 c11 c12 c13 c14 c15 c16 c17 c18; have HN := n0_; have HB := n1_; have HE := n2_; clear n0_ n1_ n2_; obtain ⟨c0, c1, c2, c3, c4, c5, c6, c7, c8, c9, c10, c11, c12, c13, c14, c15, c16, c17, c18⟩ := HN.out.cellsA)
  all_goals go_ret
  all_goals exact ⟨by first | rfl | simp [*], by rw [HSZ.out]; first | exact HB.out | exact HB.out.alloc (Nat.le_of_lt HE.out) _⟩
theorem shape_to (k : Int) (h : kindok k = true) (h4 : k ≠ 4) : ∃ n a b, Own.frame_shapes.f k = some (n, true, a, b, true) := by
  have h := of_decide_eq_true h
  obtain rfl | rfl | rfl | rfl : k = 1 ∨ k = 2 ∨ k = 3 ∨ k = 5 := by omega
  all_goals exact ⟨_, _, _, rfl⟩
set_option maxHeartbeats 1000000 in
theorem right_to_big (w : World) (f : Fr) (h : kindok f.kind = true) (h4 : f.kind ≠ 4) (hm : ¬ top f < 32) :
    Calls Tryd.prog 11 #[.agg (FC f)] w fun e w' => e = .returned (.bool false) ∧ Below w.heap.size w w' := by
  obtain ⟨n, a, b, hs⟩ : ∃ n a b, Own.frame_shapes.f f.kind = some (n, true, a, b, true) := shape_to f.kind h h4
  obtain ⟨m1, hm1⟩ : ∃ m, (if f.src < f.dst then f.dst else f.src) = m := ⟨_, rfl⟩
  obtain ⟨m2, hm2⟩ : ∃ m, (if m1 < f.ea then f.ea else m1) = m := ⟨_, rfl⟩
  obtain ⟨m3, hm3⟩ : ∃ m, (if m2 < f.ha then f.ha else m2) = m := ⟨_, rfl⟩
  have ht : top f = m3 := by rw [← hm3, ← hm2, ← hm1]; rfl
  rw [ht] at hm
  have dm : decide (m3 < 32) = false := decide_eq_false hm
  clear ht
  have HSH := Aside0.mk fun W : World => shapes_f f.kind W _ _ _ _ _ hs
  have HN := Aside0.mk (FAt.new w f)
  have HB := Aside0.mk ((Below.refl w.heap.size w).alloc (Nat.le_refl _) (.cells (FC f) 29))
  clear hs h h4 hm
  go_enter Tryd.func11, Tryd.ntmps11
  go_upto_region 1 with (fail)
  generalize w.alloc (.cells (FC f) 29) = W0 at *
  generalize hEq : w.heap.size = E at *
  have HSZ := Aside0.mk hEq
  clear hEq
  have HE := Aside0.mk HN.out.lt
  obtain ⟨c0, c1, c2, c3, c4, c5, c6, c7, c8, c9, c10, c11, c12, c13, c14, c15, c16, c17, c18⟩ := HN.out.cells
  go_wp2_with (first | (go_at_call 29; (with_reducible refine (HSH.out _).mono ?_); rintro e w1 ⟨rfl, hb⟩; have n0_ := Aside0.mk (HN.out.on hb HE.out); have n1_ := Aside0.mk (HB.out.trans (hb.mono (Nat.le_of_lt HE.out))); have n2_ := Aside0.mk (Nat.lt_of_lt_of_le HE.out hb.size); clear HN HB HE hb c0 c1 c2 c3 c4 c5 c6 c7 c8 c9 c10 c11 c12 c13 c14 c15 c16 c17 c18; have HN := n0_; have HB := n1_; have HE := n2_; clear n0_ n1_ n2_; obtain ⟨c0, c1, c2, c3, c4, c5, c6, c7, c8, c9, c10, c11, c12, c13, c14, c15, c16, c17, c18⟩ := HN.out.cellsA))
  all_goals go_ret
  all_goals exact ⟨by first | rfl | simp [*], by rw [HSZ.out]; first | exact HB.out | exact HB.out.alloc (Nat.le_of_lt HE.out) _⟩
set_option maxHeartbeats 1000000 in
theorem right_to (w : World) (f : Fr) (h : kindok f.kind = true) (h4 : f.kind ≠ 4) (hm : top f < 32) :
    Calls Tryd.prog 11 #[.agg (FC f)] w fun e w' => e = .returned (.bool (bare f)) ∧ Below w.heap.size w w' := by
  obtain ⟨n, a, b, hs⟩ : ∃ n a b, Own.frame_shapes.f f.kind = some (n, true, a, b, true) := shape_to f.kind h h4
  obtain ⟨m1, hm1⟩ : ∃ m, (if f.src < f.dst then f.dst else f.src) = m := ⟨_, rfl⟩
  obtain ⟨m2, hm2⟩ : ∃ m, (if m1 < f.ea then f.ea else m1) = m := ⟨_, rfl⟩
  obtain ⟨m3, hm3⟩ : ∃ m, (if m2 < f.ha then f.ha else m2) = m := ⟨_, rfl⟩
  have ht : top f = m3 := by rw [← hm3, ← hm2, ← hm1]; rfl
  rw [ht] at hm
  have dm : decide (m3 < 32) = true := decide_eq_true hm
  clear ht
  have HBA := Aside0.mk fun W : World => bare_f W f
  have HSH := Aside0.mk fun W : World => shapes_f f.kind W _ _ _ _ _ hs
  have HN := Aside0.mk (FAt.new w f)
  have HB := Aside0.mk ((Below.refl w.heap.size w).alloc (Nat.le_refl _) (.cells (FC f) 29))
  clear hs h h4 hm
  go_enter Tryd.func11, Tryd.ntmps11
  go_upto_region 1 with (fail)
  generalize w.alloc (.cells (FC f) 29) = W0 at *
  generalize hEq : w.heap.size = E at *
  have HSZ := Aside0.mk hEq
  clear hEq
  have HE := Aside0.mk HN.out.lt
  obtain ⟨c0, c1, c2, c3, c4, c5, c6, c7, c8, c9, c10, c11, c12, c13, c14, c15, c16, c17, c18⟩ := HN.out.cells
  go_wp2_with (first | (go_at_call 29; (with_reducible refine (HSH.out _).mono ?_); rintro e w1 ⟨rfl, hb⟩; have n0_ := Aside0.mk (HN.out.on hb HE.out); have n1_ := Aside0.mk (HB.out.trans (hb.mono (Nat.le_of_lt HE.out))); have n2_ := Aside0.mk (Nat.lt_of_lt_of_le HE.out hb.size); clear HN HB HE hb c0 c1 c2 c3 c4 c5 c6 c7 c8 c9 c10 c11 c12 c13 c14 c15 c16 c17 c18; have HN := n0_; have HB := n1_; have HE := n2_; clear n0_ n1_ n2_; obtain ⟨c0, c1, c2, c3, c4, c5, c6, c7, c8, c9, c10, c11, c12, c13, c14, c15, c16, c17, c18⟩ := HN.out.cellsA) | ((with_reducible refine gate_dst (N := 41) rfl ?_); refine gate_guard (by first | rfl | exact wanted_on rfl rfl rfl rfl) ?_; refine wpList_load_row rfl 29 (.tmp 1) rfl E rfl 29 (FC f) (0, 0) _ (HN.out.alloc _) Tryd.underlying29 rfl (by kernel_rfl) ?_) | (go_at_call 30; (with_reducible refine (HBA.out _).mono ?_); rintro e w2 ⟨rfl, hb⟩; have n1_ := Aside0.mk ((HB.out.alloc (Nat.le_of_lt HE.out) _).trans (hb.mono (by rw [size_alloc_]; have := HE.out; omega))); clear HB hb c0 c1 c2 c3 c4 c5 c6 c7 c8 c9 c10 c11 c12 c13 c14 c15 c16 c17 c18; have HB := n1_; clear n1_))
  all_goals go_ret
  all_goals exact ⟨by first | rfl | simp [*], by rw [HSZ.out]; first | exact HB.out | exact HB.out.alloc (Nat.le_of_lt HE.out) _⟩
set_option maxHeartbeats 1000000 in
theorem right_data_big (w : World) (f : Fr) (h4 : f.kind = 4) (hd : f.dst = 0 ∧ f.dinc = 0) (hm : ¬ top f < 32) :
    Calls Tryd.prog 11 #[.agg (FC f)] w fun e w' => e = .returned (.bool false) ∧ Below w.heap.size w w' := by
  have hs : Own.frame_shapes.f f.kind = some (⟨#[100, 97, 116, 97]⟩, false, 27, 42, true) := by rw [h4]; rfl
  obtain ⟨m1, hm1⟩ : ∃ m, (if f.src < f.dst then f.dst else f.src) = m := ⟨_, rfl⟩
  obtain ⟨m2, hm2⟩ : ∃ m, (if m1 < f.ea then f.ea else m1) = m := ⟨_, rfl⟩
  obtain ⟨m3, hm3⟩ : ∃ m, (if m2 < f.ha then f.ha else m2) = m := ⟨_, rfl⟩
  have ht : top f = m3 := by rw [← hm3, ← hm2, ← hm1]; rfl
  rw [ht] at hm
  have dm : decide (m3 < 32) = false := decide_eq_false hm
  clear ht
  have q1 : (f.dst != 0) = false := by rw [hd.1]; rfl
  have q2 : (f.dinc != 0) = false := by rw [hd.2]; rfl
  have HSH := Aside0.mk fun W : World => shapes_f f.kind W _ _ _ _ _ hs
  have HN := Aside0.mk (FAt.new w f)
  have HB := Aside0.mk ((Below.refl w.heap.size w).alloc (Nat.le_refl _) (.cells (FC f) 29))
  clear hs h4 hm hd
  go_enter Tryd.func11, Tryd.ntmps11
  go_upto_region 1 with (fail)
  generalize w.alloc (.cells (FC f) 29) = W0 at *
  generalize hEq : w.heap.size = E at *
  have HSZ := Aside0.mk hEq
  clear hEq
  have HE := Aside0.mk HN.out.lt
  obtain ⟨c0, c1, c2, c3, c4, c5, c6, c7, c8, c9, c10, c11, c12, c13, c14, c15, c16, c17, c18⟩ := HN.out.cells
  go_wp2_with (first | (go_at_call 29; (with_reducible refine (HSH.out _).mono ?_); rintro e w1 ⟨rfl, hb⟩; have n0_ := Aside0.mk (HN.out.on hb HE.out); have n1_ := Aside0.mk (HB.out.trans (hb.mono (Nat.le_of_lt HE.out))); have n2_ := Aside0.mk (Nat.lt_of_lt_of_le HE.out hb.size); clear HN HB HE hb c0 c1 c2 c3 c4 c5 c6 c7 c8 c9 c10 c11 c12 c13 c14 c15 c16 c17 c18; have HN := n0_; have HB := n1_; have HE := n2_; clear n0_ n1_ n2_; obtain ⟨c0, c1, c2, c3, c4, c5, c6, c7, c8, c9, c10, c11, c12, c13, c14, c15, c16, c17, c18⟩ := HN.out.cellsA))
  all_goals go_ret
  all_goals exact ⟨by first | rfl | simp [*], by rw [HSZ.out]; first | exact HB.out | exact HB.out.alloc (Nat.le_of_lt HE.out) _⟩
set_option maxHeartbeats 1000000 in
theorem right_data (w : World) (f : Fr) (h4 : f.kind = 4) (hd : f.dst = 0 ∧ f.dinc = 0) (hm : top f < 32) :
    Calls Tryd.prog 11 #[.agg (FC f)] w fun e w' => e = .returned (.bool (bare f)) ∧ Below w.heap.size w w' := by
  have hs : Own.frame_shapes.f f.kind = some (⟨#[100, 97, 116, 97]⟩, false, 27, 42, true) := by rw [h4]; rfl
  obtain ⟨m1, hm1⟩ : ∃ m, (if f.src < f.dst then f.dst else f.src) = m := ⟨_, rfl⟩
  obtain ⟨m2, hm2⟩ : ∃ m, (if m1 < f.ea then f.ea else m1) = m := ⟨_, rfl⟩
  obtain ⟨m3, hm3⟩ : ∃ m, (if m2 < f.ha then f.ha else m2) = m := ⟨_, rfl⟩
  have ht : top f = m3 := by rw [← hm3, ← hm2, ← hm1]; rfl
  rw [ht] at hm
  have dm : decide (m3 < 32) = true := decide_eq_true hm
  clear ht
  have q1 : (f.dst != 0) = false := by rw [hd.1]; rfl
  have q2 : (f.dinc != 0) = false := by rw [hd.2]; rfl
  have HBA := Aside0.mk fun W : World => bare_f W f
  have HSH := Aside0.mk fun W : World => shapes_f f.kind W _ _ _ _ _ hs
  have HN := Aside0.mk (FAt.new w f)
  have HB := Aside0.mk ((Below.refl w.heap.size w).alloc (Nat.le_refl _) (.cells (FC f) 29))
  clear hs h4 hm hd
  go_enter Tryd.func11, Tryd.ntmps11
  go_upto_region 1 with (fail)
  generalize w.alloc (.cells (FC f) 29) = W0 at *
  generalize hEq : w.heap.size = E at *
  have HSZ := Aside0.mk hEq
  clear hEq
  have HE := Aside0.mk HN.out.lt
  obtain ⟨c0, c1, c2, c3, c4, c5, c6, c7, c8, c9, c10, c11, c12, c13, c14, c15, c16, c17, c18⟩ := HN.out.cells
  go_wp2_with (first | (go_at_call 29; (with_reducible refine (HSH.out _).mono ?_); rintro e w1 ⟨rfl, hb⟩; have n0_ := Aside0.mk (HN.out.on hb HE.out); have n1_ := Aside0.mk (HB.out.trans (hb.mono (Nat.le_of_lt HE.out))); have n2_ := Aside0.mk (Nat.lt_of_lt_of_le HE.out hb.size); clear HN HB HE hb c0 c1 c2 c3 c4 c5 c6 c7 c8 c9 c10 c11 c12 c13 c14 c15 c16 c17 c18; have HN := n0_; have HB := n1_; have HE := n2_; clear n0_ n1_ n2_; obtain ⟨c0, c1, c2, c3, c4, c5, c6, c7, c8, c9, c10, c11, c12, c13, c14, c15, c16, c17, c18⟩ := HN.out.cellsA) | ((with_reducible refine gate_dst (N := 41) rfl ?_); refine gate_guard (by first | rfl | exact wanted_on rfl rfl rfl rfl) ?_; refine wpList_load_row rfl 29 (.tmp 1) rfl E rfl 29 (FC f) (0, 0) _ (HN.out.alloc _) Tryd.underlying29 rfl (by kernel_rfl) ?_) | (go_at_call 30; (with_reducible refine (HBA.out _).mono ?_); rintro e w2 ⟨rfl, hb⟩; have n1_ := Aside0.mk ((HB.out.alloc (Nat.le_of_lt HE.out) _).trans (hb.mono (by rw [size_alloc_]; have := HE.out; omega))); clear HB hb c0 c1 c2 c3 c4 c5 c6 c7 c8 c9 c10 c11 c12 c13 c14 c15 c16 c17 c18; have HB := n1_; clear n1_))
  all_goals go_ret
  all_goals exact ⟨by first | rfl | simp [*], by rw [HSZ.out]; first | exact HB.out | exact HB.out.alloc (Nat.le_of_lt HE.out) _⟩
set_option maxHeartbeats 1000000 in
theorem right_data_dst (w : World) (f : Fr) (h4 : f.kind = 4) (hd : f.dst ≠ 0) :
    Calls Tryd.prog 11 #[.agg (FC f)] w fun e w' => e = .returned (.bool false) ∧ Below w.heap.size w w' := by
  have hs : Own.frame_shapes.f f.kind = some (⟨#[100, 97, 116, 97]⟩, false, 27, 42, true) := by rw [h4]; rfl
  have q1 : (f.dst != 0) = true := bne_iff_ne.2 hd
  have HSH := Aside0.mk fun W : World => shapes_f f.kind W _ _ _ _ _ hs
  have HN := Aside0.mk (FAt.new w f)
  have HB := Aside0.mk ((Below.refl w.heap.size w).alloc (Nat.le_refl _) (.cells (FC f) 29))
  clear hs h4 hd
  go_enter Tryd.func11, Tryd.ntmps11
  go_upto_region 1 with (fail)
  generalize w.alloc (.cells (FC f) 29) = W0 at *
  generalize hEq : w.heap.size = E at *
  have HSZ := Aside0.mk hEq
  clear hEq
  have HE := Aside0.mk HN.out.lt
  obtain ⟨c0, c1, c2, c3, c4, c5, c6, c7, c8, c9, c10, c11, c12, c13, c14, c15, c16, c17, c18⟩ := HN.out.cells
  go_wp2_with (first | (go_at_call 29; (with_reducible refine (HSH.out _).mono ?_); rintro e w1 ⟨rfl, hb⟩; have n0_ := Aside0.mk (HN.out.on hb HE.out); have n1_ := Aside0.mk (HB.out.trans (hb.mono (Nat.le_of_lt HE.out))); have n2_ := Aside0.mk (Nat.lt_of_lt_of_le HE.out hb.size); clear HN HB HE hb c0 c1 c2 c3 c4 c5 c6 c7 c8 c9 c10 c11 c12 c13 c14 c15 c16 c17 c18; have HN := n0_; have HB := n1_; have HE := n2_; clear n0_ n1_ n2_; obtain ⟨c0, c1, c2, c3, c4, c5, c6, c7, c8, c9, c10, c11, c12, c13, c14, c15, c16, c17, c18⟩ := HN.out.cellsA))
  all_goals go_ret
  all_goals exact ⟨by first | rfl | simp [*], by rw [HSZ.out]; first | exact HB.out | exact HB.out.alloc (Nat.le_of_lt HE.out) _⟩
set_option maxHeartbeats 1000000 in
theorem right_data_inc (w : World) (f : Fr) (h4 : f.kind = 4) (hd : f.dst = 0 ∧ f.dinc ≠ 0) :
    Calls Tryd.prog 11 #[.agg (FC f)] w fun e w' => e = .returned (.bool false) ∧ Below w.heap.size w w' := by
  have hs : Own.frame_shapes.f f.kind = some (⟨#[100, 97, 116, 97]⟩, false, 27, 42, true) := by rw [h4]; rfl
  have q1 : (f.dst != 0) = false := by rw [hd.1]; rfl
  have q2 : (f.dinc != 0) = true := bne_iff_ne.2 hd.2
  have HSH := Aside0.mk fun W : World => shapes_f f.kind W _ _ _ _ _ hs
  have HN := Aside0.mk (FAt.new w f)
  have HB := Aside0.mk ((Below.refl w.heap.size w).alloc (Nat.le_refl _) (.cells (FC f) 29))
  clear hs h4 hd
  go_enter Tryd.func11, Tryd.ntmps11
  go_upto_region 1 with (fail)
  generalize w.alloc (.cells (FC f) 29) = W0 at *
  generalize hEq : w.heap.size = E at *
  have HSZ := Aside0.mk hEq
  clear hEq
  have HE := Aside0.mk HN.out.lt
  obtain ⟨c0, c1, c2, c3, c4, c5, c6, c7, c8, c9, c10, c11, c12, c13, c14, c15, c16, c17, c18⟩ := HN.out.cells
  go_wp2_with (first | (go_at_call 29; (with_reducible refine (HSH.out _).mono ?_); rintro e w1 ⟨rfl, hb⟩; have n0_ := Aside0.mk (HN.out.on hb HE.out); have n1_ := Aside0.mk (HB.out.trans (hb.mono (Nat.le_of_lt HE.out))); have n2_ := Aside0.mk (Nat.lt_of_lt_of_le HE.out hb.size); clear HN HB HE hb c0 c1 c2 c3 c4 c5 c6 c7 c8 c9 c10 c11 c12 c13 c14 c15 c16 c17 c18; have HN := n0_; have HB := n1_; have HE := n2_; clear n0_ n1_ n2_; obtain ⟨c0, c1, c2, c3, c4, c5, c6, c7, c8, c9, c10, c11, c12, c13, c14, c15, c16, c17, c18⟩ := HN.out.cellsA))
  all_goals go_ret
  all_goals exact ⟨by first | rfl | simp [*], by rw [HSZ.out]; first | exact HB.out | exact HB.out.alloc (Nat.le_of_lt HE.out) _⟩
theorem right_f (w : World) (f : Fr) : Calls Tryd.prog 11 #[.agg (FC f)] w fun e w' => e = .returned (.bool (right f)) ∧ Below w.heap.size w w' := by
  unfold right
  cases hk : kindok f.kind with
  | false => exact right_no w f hk
  | true =>
    by_cases h4 : f.kind = 4
    · by_cases hd : f.dst = 0
      · by_cases hi : f.dinc = 0
        · by_cases hm : top f < 32
          · rw [decide_eq_false (by simp [h4]), decide_eq_true (And.intro hd hi), decide_eq_true hm]
            exact right_data w f h4 ⟨hd, hi⟩ hm
          · rw [decide_eq_false hm, Bool.and_false, Bool.false_and]
            exact right_data_big w f h4 ⟨hd, hi⟩ hm
        · rw [decide_eq_false (by simp [h4]), decide_eq_false (by simp [hi])]
          exact right_data_inc w f h4 ⟨hd, hi⟩
      · rw [decide_eq_false (by simp [h4]), decide_eq_false (by simp [hd])]
        exact right_data_dst w f h4 hd
    · rw [decide_eq_true (show f.kind ≠ 4 from h4)]
      by_cases hm : top f < 32
      · rw [decide_eq_true hm]
        exact right_to w f hk h4 hm
      · rw [decide_eq_false hm, Bool.and_false, Bool.false_and]
        exact right_to_big w f hk h4 hm
end Go.Proofs.YtkcaifpmceoflaaDoor.Frm

/- The walk of the document's Right. Conditions: those that each statement names. -/
import Derived.Test.YtkcaifpmceoflaaDoorCoded
namespace Go.Proofs.YtkcaifpmceoflaaDoor.Frm
open Go.RowKit Go.Proofs.YtkcaifpmceoflaaDoorW.PrintWords Go.Proofs.YtkcaifpmceoflaaDoorW.PrintLast Go.Proofs.YtkcaifpmceoflaaDoorW.PrintMore
set_option linter.unusedVariables false
set_option linter.unusedSimpArgs false
theorem ret_b {a b : Bool} (h : a = b) : Ending.returned (.bool a) = .returned (.bool b) := by rw [h]
theorem top_lt (f : Fr) : top f < 32 ↔ (f.src < 32 ∧ f.dst < 32 ∧ f.ea < 32 ∧ f.ha < 32) := by
  unfold top mx
  repeat' split
  all_goals omega
/-- A frame without what only a kind has. -/
def gbase (f : Fr) : Fr := { fz with kind := f.kind, src := f.src, sinc := f.sinc, ec := f.ec, ea := f.ea, ei := f.ei, hop := f.hop }
def gP (f : Fr) : Fr := { gbase f with dst := f.dst, dinc := f.dinc }
def g3 (f : Fr) : Fr := { gP f with hc := f.hc, ha := f.ha, hi := f.hi, wants := f.wants }
def g4 (f : Fr) : Fr := { gbase f with blk := f.blk, vinc := f.vinc, vseq := f.vseq, part := f.part, parts := f.parts, bytes := f.bytes }
def Ans (f g : Fr) : Prop := (f = g → ((f.src < 32 ∧ f.dst < 32 ∧ f.ea < 32 ∧ f.ha < 32) → right f = true) ∧ (¬ (f.src < 32 ∧ f.dst < 32 ∧ f.ea < 32 ∧ f.ha < 32) → right f = false)) ∧ (f ≠ g → right f = false)
theorem ans_of (f g : Fr) (hk : 1 ≤ f.kind ∧ f.kind ≤ 5) (h1 : f = g → bare f = true ∧ (f.kind = 4 → f.dst = 0 ∧ f.dinc = 0)) (h2 : bare f = true → (f.kind = 4 → f.dst = 0 ∧ f.dinc = 0) → f = g) : Ans f g := by
  have hkk : kindok f.kind = true := decide_eq_true hk
  have hd : ∀ b : Bool, (f.kind = 4 → f.dst = 0 ∧ f.dinc = 0) → right f = (decide (top f < 32) && bare f) := fun b h => by
    unfold right
    rw [hkk, Bool.true_and]
    by_cases h4 : f.kind = 4
    · rw [decide_eq_true (h h4), Bool.or_true, Bool.true_and]
    · rw [decide_eq_true (show f.kind ≠ 4 from h4), Bool.true_or, Bool.true_and]
  refine ⟨fun e => ?_, fun e => ?_⟩
  · obtain ⟨hb, h4⟩ := h1 e
    rw [hd true h4, hb, Bool.and_true, ← top_lt]
    exact ⟨fun h => decide_eq_true h, fun h => decide_eq_false h⟩
  · by_cases h4 : f.kind = 4 → f.dst = 0 ∧ f.dinc = 0
    · rw [hd true h4]
      cases hb : bare f with
      | false => rw [Bool.and_false]
      | true => exact absurd (h2 hb h4) e
    · unfold right
      have h5 : f.kind = 4 := Decidable.byContradiction fun h => h4 fun h' => absurd h' h
      rw [decide_eq_false (fun h => h4 fun _ => h), decide_eq_false (show ¬ f.kind ≠ 4 from fun h => h h5), Bool.or_false, Bool.and_false, Bool.false_and, Bool.false_and]
theorem nil_str (b : ByteArray) (h : b.size = 0) : b.toList = (⟨#[]⟩ : ByteArray).toList := by rw [size0 b h]
theorem ans_P (f : Fr) (hk : f.kind = 1 ∨ f.kind = 2 ∨ f.kind = 5) : Ans f (gP f) := by
  refine ans_of f _ (by omega) (fun e => ⟨?_, fun h => by omega⟩) (fun hb _ => ?_)
  · have n : ∀ g : Fr, f = g → f.hc = g.hc ∧ f.ha = g.ha ∧ f.hi = g.hi ∧ f.wants = g.wants ∧ f.blk = g.blk ∧ f.vinc = g.vinc ∧ f.vseq = g.vseq ∧ f.part = g.part ∧ f.parts = g.parts ∧ f.bytes = g.bytes := fun g h => by subst h; exact ⟨rfl, rfl, rfl, rfl, rfl, rfl, rfl, rfl, rfl, rfl⟩
    obtain ⟨a1, a2, a3, a4, a5, a6, a7, a8, a9, a10⟩ := n _ e
    unfold bare
    rw [a1, a2, a3, a4, a5, a6, a7, a8, a9, a10, if_neg (by simp [gP, gbase, fz]), if_neg (by omega)]
    rfl
  · obtain ⟨a1, a2, a3, a4⟩ := bare_no3 f hb (by omega)
    obtain ⟨b1, b2, b3, b4, b5, b6⟩ := bare_no4 f hb (by omega)
    exact Fr.same f (gP f) rfl rfl rfl rfl rfl rfl rfl rfl rfl a1 a2 a3 a4 b1 b2 b3 b4 b5 (nil_str _ b6)
theorem ans_3 (f : Fr) (hk : f.kind = 3) : Ans f (g3 f) := by
  refine ans_of f _ (by omega) (fun e => ⟨?_, fun h => by omega⟩) (fun hb _ => ?_)
  · have n : ∀ g : Fr, f = g → f.blk = g.blk ∧ f.vinc = g.vinc ∧ f.vseq = g.vseq ∧ f.part = g.part ∧ f.parts = g.parts ∧ f.bytes = g.bytes := fun g h => by subst h; exact ⟨rfl, rfl, rfl, rfl, rfl, rfl⟩
    obtain ⟨a5, a6, a7, a8, a9, a10⟩ := n _ e
    unfold bare
    rw [a5, a6, a7, a8, a9, a10, if_neg (fun h : f.kind ≠ 3 ∧ _ => h.1 hk), if_neg (by omega)]
    rfl
  · obtain ⟨b1, b2, b3, b4, b5, b6⟩ := bare_3 f hb hk
    exact Fr.same f (g3 f) rfl rfl rfl rfl rfl rfl rfl rfl rfl rfl rfl rfl rfl b1 b2 b3 b4 b5 (nil_str _ b6)
def ok4 (f : Fr) : Prop := f.blk < 16 ∧ 1 ≤ f.parts ∧ f.parts ≤ 4 ∧ f.part < f.parts ∧ 1 ≤ f.bytes.size ∧ f.bytes.size ≤ 16
theorem ans_4 (f : Fr) (hk : f.kind = 4) (ho : ok4 f) : Ans f (g4 f) := by
  refine ans_of f _ (by omega) (fun e => ⟨?_, fun h => ?_⟩) (fun hb h4 => ?_)
  · have n : ∀ g : Fr, f = g → f.hc = g.hc ∧ f.ha = g.ha ∧ f.hi = g.hi ∧ f.wants = g.wants := fun g h => by subst h; exact ⟨rfl, rfl, rfl, rfl⟩
    obtain ⟨a1, a2, a3, a4⟩ := n _ e
    unfold bare
    rw [a1, a2, a3, a4, if_neg (by simp [g4, gbase, fz]), if_pos hk]
    exact decide_eq_true ho
  · have n : ∀ g : Fr, f = g → f.dst = g.dst ∧ f.dinc = g.dinc := fun g h => by subst h; exact ⟨rfl, rfl⟩
    exact n _ e
  · obtain ⟨a1, a2, a3, a4⟩ := bare_no3 f hb (by omega)
    obtain ⟨c1, c2⟩ := h4 hk
    exact Fr.same f (g4 f) rfl rfl c1 rfl c2 rfl rfl rfl rfl a1 a2 a3 a4 rfl rfl rfl rfl rfl rfl
theorem bad4 (f : Fr) (hk : f.kind = 4) (ho : ¬ ok4 f) : right f = false := by
  cases h : right f with
  | false => rfl
  | true => exact absurd (bare_4 f (right_parts f h).2.2.2 hk) ho
structure T2 (w0 w : World) (E G : Nat) (f g : Fr) : Prop where
  fr : FAt w E f
  fg : FAt w G g
  ne : E ≠ G
  lo : w0.heap.size ≤ G
  below : Below w0.heap.size w0 w
theorem T2.put {w0 w : World} {E G : Nat} {f g : Fr} (h : T2 w0 w E G f g) (j : Nat) (u : Value) (g' : Fr) (e : (FC g).setIfInBounds j u = FC g') : T2 w0 (w.setCell ⟨G, j, none⟩ u) E G f g' :=
  ⟨(Below.heap_setCell _ _ _ _ h.ne).trans h.fr, by unfold FAt; rw [← e]; exact set_block h.fg, h.ne, h.lo, h.below.setCell h.lo u⟩
theorem T2.start (w : World) (f : Fr) : ∃ W, ((w.alloc (.cells (FC f) 29)).alloc (.cells #[.int .i64 0, .int .u8 0, .int .u8 0, .int .u16 0, .int .u16 0, .int .u16 0, .int .u8 0, .int .u16 0, .int .u16 0, .int .u16 0, .int .u8 0, .int .u16 0, .bool false, .int .u8 0, .int .u16 0, .int .u32 0, .int .u8 0, .int .u8 0, .string ⟨#[]⟩] 29)).setRow (w.heap.size + 1) (FC (gbase f)) = W ∧ ((w.alloc (.cells (FC f) 29)).alloc (.cells #[.int .i64 0, .int .u8 0, .int .u8 0, .int .u16 0, .int .u16 0, .int .u16 0, .int .u8 0, .int .u16 0, .int .u16 0, .int .u16 0, .int .u8 0, .int .u16 0, .bool false, .int .u8 0, .int .u16 0, .int .u32 0, .int .u8 0, .int .u8 0, .string ⟨#[]⟩] 29)).heap[w.heap.size + 1]? = some (.cells #[.int .i64 0, .int .u8 0, .int .u8 0, .int .u16 0, .int .u16 0, .int .u16 0, .int .u8 0, .int .u16 0, .int .u16 0, .int .u16 0, .int .u8 0, .int .u16 0, .bool false, .int .u8 0, .int .u16 0, .int .u32 0, .int .u8 0, .int .u8 0, .string ⟨#[]⟩] 29 (0, 0)) ∧ T2 w W w.heap.size (w.heap.size + 1) f (gbase f) := by
  have hs : (w.alloc (.cells (FC f) 29)).heap.size = w.heap.size + 1 := by rw [show (w.alloc (.cells (FC f) 29)).heap = w.heap.push (.cells (FC f) 29) from rfl, Array.size_push]
  have h0 : ((w.alloc (.cells (FC f) 29)).alloc (.cells #[.int .i64 0, .int .u8 0, .int .u8 0, .int .u16 0, .int .u16 0, .int .u16 0, .int .u8 0, .int .u16 0, .int .u16 0, .int .u16 0, .int .u8 0, .int .u16 0, .bool false, .int .u8 0, .int .u16 0, .int .u32 0, .int .u8 0, .int .u8 0, .string ⟨#[]⟩] 29)).heap[w.heap.size + 1]? = some (.cells #[.int .i64 0, .int .u8 0, .int .u8 0, .int .u16 0, .int .u16 0, .int .u16 0, .int .u8 0, .int .u16 0, .int .u16 0, .int .u16 0, .int .u8 0, .int .u16 0, .bool false, .int .u8 0, .int .u16 0, .int .u32 0, .int .u8 0, .int .u8 0, .string ⟨#[]⟩] 29 (0, 0)) := by
    have := FAt.new (w.alloc (.cells (FC f) 29)) fz
    rw [hs] at this
    exact this
  refine ⟨_, rfl, h0, ⟨?_, ?_, by omega, by omega, ?_⟩⟩
  · exact (setRow_other _ _ _ _ (by omega)).trans (old_alloc _ _ (FAt.new w f))
  · exact setRow_heap _ _ _ _ _ _ h0
  · refine (((Below.refl w.heap.size w).alloc (Nat.le_refl _) _).alloc (by rw [hs]; omega) _).trans ⟨rfl, rfl, rfl, by rw [setRow_size]; exact Nat.le_refl _, fun k hk => setRow_other _ _ _ _ (by omega)⟩
set_option maxHeartbeats 4000000 in
set_option maxRecDepth 100000 in
theorem rr_no (w : World) (f : Fr) (hr : Rng f) (hk : ¬ (1 ≤ f.kind ∧ f.kind ≤ 5)) :
    Calls Tryd.prog 10 #[.agg (FC f)] w fun e w' => e = .returned (.bool (false)) ∧ Below w.heap.size w w' := by
  have k1 : (f.kind == 1) = false := beq_eq_false_iff_ne.2 (by omega)
  have k2 : (f.kind == 2) = false := beq_eq_false_iff_ne.2 (by omega)
  have k3 : (f.kind == 3) = false := beq_eq_false_iff_ne.2 (by omega)
  have k4 : (f.kind == 4) = false := beq_eq_false_iff_ne.2 (by omega)
  have k5 : (f.kind == 5) = false := beq_eq_false_iff_ne.2 (by omega)
  have HK := Aside0.mk hk
  clear hk
  obtain ⟨W1, hW, hlk, ht⟩ := T2.start w f
  have HW := Aside0.mk hW
  have HLK := Aside0.mk hlk
  have HT := Aside0.mk ht
  have HN := Aside0.mk (FAt.new w f)
  obtain ⟨c0, c1, c2, c3, c4, c5, c6, c7, c8, c9, c10, c11, c12, c13, c14, c15, c16, c17, c18⟩ := HN.out.cells
  clear hW hlk ht
  go_enter Tryd.func10, Tryd.ntmps10
  go_upto_region 2 with (first | ((with_reducible refine gate_store (t := 29) (p := 3) rfl ?_); refine wpList_store_row rfl 29 (.tmp 3) (.tmp 14) rfl _ (FC (gbase f)) rfl rfl 29 _ HLK.out (by kernel_rfl) rfl (fc_one _) ?_; refine (congrArg (fun W => wpList Tryd.prog _ _ _ _ W) HW.out).mpr ?_; clear HW HLK))
  clear HN c0 c1 c2 c3 c4 c5 c6 c7 c8 c9 c10 c11 c12 c13 c14 c15 c16 c17 c18
  obtain ⟨c0, c1, c2, c3, c4, c5, c6, c7, c8, c9, c10, c11, c12, c13, c14, c15, c16, c17, c18⟩ := HT.out.fr.cells
  obtain ⟨e0, e1, e2, e3, e4, e5, e6, e7, e8, e9, e10, e11, e12, e13, e14, e15, e16, e17, e18⟩ := HT.out.fg.cells
  have hfr := HT.out.fg.frees
  generalize w.heap.size + 1 = G at *
  generalize hEq : w.heap.size = E at *
  have HSZ := Aside0.mk hEq
  clear hEq
  go_upto_region 16 with (fail)
  obtain ⟨g, hg⟩ : ∃ g, gbase f = g := ⟨_, rfl⟩
  rw [hg] at HT
  have HG := Aside0.mk hg
  clear hg c0 c1 c2 c3 c4 c5 c6 c7 c8 c9 c10 c11 c12 c13 c14 c15 c16 c17 c18 e0 e1 e2 e3 e4 e5 e6 e7 e8 e9 e10 e11 e12 e13 e14 e15 e16 e17 e18 hfr
  obtain ⟨c0, c1, c2, c3, c4, c5, c6, c7, c8, c9, c10, c11, c12, c13, c14, c15, c16, c17, c18⟩ := HT.out.fr.cells
  by_cases hfg : f = g
  · subst hfg
    by_cases h1 : 1 ≤ f.kind
    · have d1 : decide (1 ≤ f.kind) = true := decide_eq_true h1
      have d2 : decide (f.kind ≤ 5) = false := decide_eq_false (fun h => HK.out ⟨h1, h⟩)
      clear h1
      go_wp2_with (first | ((with_reducible refine gate_dst (N := 98) rfl ?_); refine wpList_load_row rfl 29 (.tmp 1) rfl _ rfl 29 (FC (f)) (0, 0) _ (HT.out.fr) Tryd.underlying29 rfl (by kernel_rfl) ?_) | ((with_reducible refine gate_dst (N := 99) rfl ?_); refine wpList_load_row rfl 29 (.tmp 3) rfl _ rfl 29 (FC (f)) (0, 0) _ (HT.out.fg) Tryd.underlying29 rfl (by kernel_rfl) ?_))
      all_goals go_ret
      all_goals exact ⟨rfl, HT.out.below⟩
    · have d1 : decide (1 ≤ f.kind) = false := decide_eq_false h1
      clear h1
      go_wp2_with (first | ((with_reducible refine gate_dst (N := 98) rfl ?_); refine wpList_load_row rfl 29 (.tmp 1) rfl _ rfl 29 (FC (f)) (0, 0) _ (HT.out.fr) Tryd.underlying29 rfl (by kernel_rfl) ?_) | ((with_reducible refine gate_dst (N := 99) rfl ?_); refine wpList_load_row rfl 29 (.tmp 3) rfl _ rfl 29 (FC (f)) (0, 0) _ (HT.out.fg) Tryd.underlying29 rfl (by kernel_rfl) ?_))
      all_goals go_ret
      all_goals exact ⟨rfl, HT.out.below⟩
  · have heq : ∀ W, (binOp .eql 29 (.agg (FC f)) (.agg (FC g))).run Tryd.prog W = .ok (.bool false) W := fun W => eq_no f g hfg W
    have HF := Aside0.mk hfg
    clear hfg
    go_wp2_with (first | ((with_reducible refine gate_dst (N := 98) rfl ?_); refine wpList_load_row rfl 29 (.tmp 1) rfl _ rfl 29 (FC (f)) (0, 0) _ (HT.out.fr) Tryd.underlying29 rfl (by kernel_rfl) ?_) | ((with_reducible refine gate_dst (N := 99) rfl ?_); refine wpList_load_row rfl 29 (.tmp 3) rfl _ rfl 29 (FC (g)) (0, 0) _ (HT.out.fg) Tryd.underlying29 rfl (by kernel_rfl) ?_))
    all_goals go_ret
    all_goals exact ⟨rfl, HT.out.below⟩
set_option maxHeartbeats 4000000 in
set_option maxRecDepth 100000 in
theorem rr_k1 (w : World) (f : Fr) (hr : Rng f) (hk : f.kind = 1) :
    Calls Tryd.prog 10 #[.agg (FC f)] w fun e w' => e = .returned (.bool (right f)) ∧ Below w.heap.size w w' := by
  have hkr : decide (1 ≤ f.kind) = true := decide_eq_true (by omega)
  have hkr2 : decide (f.kind ≤ 5) = true := decide_eq_true (by omega)
  have k1 : (f.kind == 1) = true := beq_iff_eq.2 hk
  have k2 : (f.kind == 2) = false := beq_eq_false_iff_ne.2 (by omega)
  have k3 : (f.kind == 3) = false := beq_eq_false_iff_ne.2 (by omega)
  have k4 : (f.kind == 4) = false := beq_eq_false_iff_ne.2 (by omega)
  have k5 : (f.kind == 5) = false := beq_eq_false_iff_ne.2 (by omega)
  have HV := Aside0.mk (ans_P f (by omega))
  clear hk hr
  obtain ⟨W1, hW, hlk, ht⟩ := T2.start w f
  have HW := Aside0.mk hW
  have HLK := Aside0.mk hlk
  have HT := Aside0.mk ht
  have HN := Aside0.mk (FAt.new w f)
  obtain ⟨c0, c1, c2, c3, c4, c5, c6, c7, c8, c9, c10, c11, c12, c13, c14, c15, c16, c17, c18⟩ := HN.out.cells
  clear hW hlk ht
  go_enter Tryd.func10, Tryd.ntmps10
  go_upto_region 2 with (first | ((with_reducible refine gate_store (t := 29) (p := 3) rfl ?_); refine wpList_store_row rfl 29 (.tmp 3) (.tmp 14) rfl _ (FC (gbase f)) rfl rfl 29 _ HLK.out (by kernel_rfl) rfl (fc_one _) ?_; refine (congrArg (fun W => wpList Tryd.prog _ _ _ _ W) HW.out).mpr ?_; clear HW HLK))
  clear HN c0 c1 c2 c3 c4 c5 c6 c7 c8 c9 c10 c11 c12 c13 c14 c15 c16 c17 c18
  obtain ⟨c0, c1, c2, c3, c4, c5, c6, c7, c8, c9, c10, c11, c12, c13, c14, c15, c16, c17, c18⟩ := HT.out.fr.cells
  obtain ⟨e0, e1, e2, e3, e4, e5, e6, e7, e8, e9, e10, e11, e12, e13, e14, e15, e16, e17, e18⟩ := HT.out.fg.cells
  have hfr := HT.out.fg.frees
  generalize w.heap.size + 1 = G at *
  generalize hEq : w.heap.size = E at *
  have HSZ := Aside0.mk hEq
  clear hEq
  go_upto_region 4 with (fail)
  have n0_ := Aside0.mk ((HT.out.put 2 (.int .u8 f.dst) ({ gbase f with dst := f.dst }) rfl))
  clear HT hfr c0 c1 c2 c3 c4 c5 c6 c7 c8 c9 c10 c11 c12 c13 c14 c15 c16 c17 c18 e0 e1 e2 e3 e4 e5 e6 e7 e8 e9 e10 e11 e12 e13 e14 e15 e16 e17 e18
  have HT := n0_
  clear n0_
  obtain ⟨c0, c1, c2, c3, c4, c5, c6, c7, c8, c9, c10, c11, c12, c13, c14, c15, c16, c17, c18⟩ := HT.out.fr.cells
  obtain ⟨e0, e1, e2, e3, e4, e5, e6, e7, e8, e9, e10, e11, e12, e13, e14, e15, e16, e17, e18⟩ := HT.out.fg.cells
  have hfr := HT.out.fg.frees
  go_upto_region 5 with (fail)
  have n0_ := Aside0.mk ((HT.out.put 4 (.int .u16 f.dinc) (gP f) rfl))
  clear HT hfr c0 c1 c2 c3 c4 c5 c6 c7 c8 c9 c10 c11 c12 c13 c14 c15 c16 c17 c18 e0 e1 e2 e3 e4 e5 e6 e7 e8 e9 e10 e11 e12 e13 e14 e15 e16 e17 e18
  have HT := n0_
  clear n0_
  obtain ⟨c0, c1, c2, c3, c4, c5, c6, c7, c8, c9, c10, c11, c12, c13, c14, c15, c16, c17, c18⟩ := HT.out.fr.cells
  obtain ⟨e0, e1, e2, e3, e4, e5, e6, e7, e8, e9, e10, e11, e12, e13, e14, e15, e16, e17, e18⟩ := HT.out.fg.cells
  have hfr := HT.out.fg.frees
  go_upto_region 16 with (fail)
  obtain ⟨g, hg⟩ : ∃ g, gP f = g := ⟨_, rfl⟩
  rw [hg] at HT
  have HG := Aside0.mk hg
  clear hg c0 c1 c2 c3 c4 c5 c6 c7 c8 c9 c10 c11 c12 c13 c14 c15 c16 c17 c18 e0 e1 e2 e3 e4 e5 e6 e7 e8 e9 e10 e11 e12 e13 e14 e15 e16 e17 e18 hfr
  obtain ⟨c0, c1, c2, c3, c4, c5, c6, c7, c8, c9, c10, c11, c12, c13, c14, c15, c16, c17, c18⟩ := HT.out.fr.cells
  by_cases hfg : f = g
  · subst hfg
    by_cases h0 : f.src < 32
    · have d3 : decide (f.src < 32) = true := decide_eq_true h0
      have H0 := Aside0.mk h0
      clear h0
      by_cases h1 : f.dst < 32
      · have d4 : decide (f.dst < 32) = true := decide_eq_true h1
        have H1 := Aside0.mk h1
        clear h1
        by_cases h2 : f.ea < 32
        · have d5 : decide (f.ea < 32) = true := decide_eq_true h2
          have H2 := Aside0.mk h2
          clear h2
          by_cases h3 : f.ha < 32
          · have d6 : decide (f.ha < 32) = true := decide_eq_true h3
            have H3 := Aside0.mk h3
            clear h3
            go_wp2_with (first | ((with_reducible refine gate_dst (N := 98) rfl ?_); refine wpList_load_row rfl 29 (.tmp 1) rfl _ rfl 29 (FC (f)) (0, 0) _ (HT.out.fr) Tryd.underlying29 rfl (by kernel_rfl) ?_) | ((with_reducible refine gate_dst (N := 99) rfl ?_); refine wpList_load_row rfl 29 (.tmp 3) rfl _ rfl 29 (FC (f)) (0, 0) _ (HT.out.fg) Tryd.underlying29 rfl (by kernel_rfl) ?_))
            all_goals go_ret
            all_goals exact ⟨ret_b ((HV.out.1 HG.out.symm).1 ⟨H0.out, H1.out, H2.out, H3.out⟩).symm, HT.out.below⟩
          · have d6 : decide (f.ha < 32) = false := decide_eq_false h3
            have H3 := Aside0.mk h3
            clear h3
            go_wp2_with (first | ((with_reducible refine gate_dst (N := 98) rfl ?_); refine wpList_load_row rfl 29 (.tmp 1) rfl _ rfl 29 (FC (f)) (0, 0) _ (HT.out.fr) Tryd.underlying29 rfl (by kernel_rfl) ?_) | ((with_reducible refine gate_dst (N := 99) rfl ?_); refine wpList_load_row rfl 29 (.tmp 3) rfl _ rfl 29 (FC (f)) (0, 0) _ (HT.out.fg) Tryd.underlying29 rfl (by kernel_rfl) ?_))
            all_goals go_ret
            all_goals exact ⟨ret_b ((HV.out.1 HG.out.symm).2 (fun h => absurd h.2.2.2 (by have h_ := H3.out; omega))).symm, HT.out.below⟩
        · have d5 : decide (f.ea < 32) = false := decide_eq_false h2
          have H2 := Aside0.mk h2
          clear h2
          go_wp2_with (first | ((with_reducible refine gate_dst (N := 98) rfl ?_); refine wpList_load_row rfl 29 (.tmp 1) rfl _ rfl 29 (FC (f)) (0, 0) _ (HT.out.fr) Tryd.underlying29 rfl (by kernel_rfl) ?_) | ((with_reducible refine gate_dst (N := 99) rfl ?_); refine wpList_load_row rfl 29 (.tmp 3) rfl _ rfl 29 (FC (f)) (0, 0) _ (HT.out.fg) Tryd.underlying29 rfl (by kernel_rfl) ?_))
          all_goals go_ret
          all_goals exact ⟨ret_b ((HV.out.1 HG.out.symm).2 (fun h => absurd h.2.2.1 (by have h_ := H2.out; omega))).symm, HT.out.below⟩
      · have d4 : decide (f.dst < 32) = false := decide_eq_false h1
        have H1 := Aside0.mk h1
        clear h1
        go_wp2_with (first | ((with_reducible refine gate_dst (N := 98) rfl ?_); refine wpList_load_row rfl 29 (.tmp 1) rfl _ rfl 29 (FC (f)) (0, 0) _ (HT.out.fr) Tryd.underlying29 rfl (by kernel_rfl) ?_) | ((with_reducible refine gate_dst (N := 99) rfl ?_); refine wpList_load_row rfl 29 (.tmp 3) rfl _ rfl 29 (FC (f)) (0, 0) _ (HT.out.fg) Tryd.underlying29 rfl (by kernel_rfl) ?_))
        all_goals go_ret
        all_goals exact ⟨ret_b ((HV.out.1 HG.out.symm).2 (fun h => absurd h.2.1 (by have h_ := H1.out; omega))).symm, HT.out.below⟩
    · have d3 : decide (f.src < 32) = false := decide_eq_false h0
      have H0 := Aside0.mk h0
      clear h0
      go_wp2_with (first | ((with_reducible refine gate_dst (N := 98) rfl ?_); refine wpList_load_row rfl 29 (.tmp 1) rfl _ rfl 29 (FC (f)) (0, 0) _ (HT.out.fr) Tryd.underlying29 rfl (by kernel_rfl) ?_) | ((with_reducible refine gate_dst (N := 99) rfl ?_); refine wpList_load_row rfl 29 (.tmp 3) rfl _ rfl 29 (FC (f)) (0, 0) _ (HT.out.fg) Tryd.underlying29 rfl (by kernel_rfl) ?_))
      all_goals go_ret
      all_goals exact ⟨ret_b ((HV.out.1 HG.out.symm).2 (fun h => absurd h.1 (by have h_ := H0.out; omega))).symm, HT.out.below⟩
  · have heq : ∀ W, (binOp .eql 29 (.agg (FC f)) (.agg (FC g))).run Tryd.prog W = .ok (.bool false) W := fun W => eq_no f g hfg W
    have HF := Aside0.mk hfg
    clear hfg
    go_wp2_with (first | ((with_reducible refine gate_dst (N := 98) rfl ?_); refine wpList_load_row rfl 29 (.tmp 1) rfl _ rfl 29 (FC (f)) (0, 0) _ (HT.out.fr) Tryd.underlying29 rfl (by kernel_rfl) ?_) | ((with_reducible refine gate_dst (N := 99) rfl ?_); refine wpList_load_row rfl 29 (.tmp 3) rfl _ rfl 29 (FC (g)) (0, 0) _ (HT.out.fg) Tryd.underlying29 rfl (by kernel_rfl) ?_))
    all_goals go_ret
    all_goals exact ⟨ret_b (HV.out.2 (by rw [HG.out]; exact HF.out)).symm, HT.out.below⟩
set_option maxHeartbeats 4000000 in
set_option maxRecDepth 100000 in
theorem rr_k2 (w : World) (f : Fr) (hr : Rng f) (hk : f.kind = 2) :
    Calls Tryd.prog 10 #[.agg (FC f)] w fun e w' => e = .returned (.bool (right f)) ∧ Below w.heap.size w w' := by
  have hkr : decide (1 ≤ f.kind) = true := decide_eq_true (by omega)
  have hkr2 : decide (f.kind ≤ 5) = true := decide_eq_true (by omega)
  have k1 : (f.kind == 1) = false := beq_eq_false_iff_ne.2 (by omega)
  have k2 : (f.kind == 2) = true := beq_iff_eq.2 hk
  have k3 : (f.kind == 3) = false := beq_eq_false_iff_ne.2 (by omega)
  have k4 : (f.kind == 4) = false := beq_eq_false_iff_ne.2 (by omega)
  have k5 : (f.kind == 5) = false := beq_eq_false_iff_ne.2 (by omega)
  have HV := Aside0.mk (ans_P f (by omega))
  clear hk hr
  obtain ⟨W1, hW, hlk, ht⟩ := T2.start w f
  have HW := Aside0.mk hW
  have HLK := Aside0.mk hlk
  have HT := Aside0.mk ht
  have HN := Aside0.mk (FAt.new w f)
  obtain ⟨c0, c1, c2, c3, c4, c5, c6, c7, c8, c9, c10, c11, c12, c13, c14, c15, c16, c17, c18⟩ := HN.out.cells
  clear hW hlk ht
  go_enter Tryd.func10, Tryd.ntmps10
  go_upto_region 2 with (first | ((with_reducible refine gate_store (t := 29) (p := 3) rfl ?_); refine wpList_store_row rfl 29 (.tmp 3) (.tmp 14) rfl _ (FC (gbase f)) rfl rfl 29 _ HLK.out (by kernel_rfl) rfl (fc_one _) ?_; refine (congrArg (fun W => wpList Tryd.prog _ _ _ _ W) HW.out).mpr ?_; clear HW HLK))
  clear HN c0 c1 c2 c3 c4 c5 c6 c7 c8 c9 c10 c11 c12 c13 c14 c15 c16 c17 c18
  obtain ⟨c0, c1, c2, c3, c4, c5, c6, c7, c8, c9, c10, c11, c12, c13, c14, c15, c16, c17, c18⟩ := HT.out.fr.cells
  obtain ⟨e0, e1, e2, e3, e4, e5, e6, e7, e8, e9, e10, e11, e12, e13, e14, e15, e16, e17, e18⟩ := HT.out.fg.cells
  have hfr := HT.out.fg.frees
  generalize w.heap.size + 1 = G at *
  generalize hEq : w.heap.size = E at *
  have HSZ := Aside0.mk hEq
  clear hEq
  go_upto_region 4 with (fail)
  have n0_ := Aside0.mk ((HT.out.put 2 (.int .u8 f.dst) ({ gbase f with dst := f.dst }) rfl))
  clear HT hfr c0 c1 c2 c3 c4 c5 c6 c7 c8 c9 c10 c11 c12 c13 c14 c15 c16 c17 c18 e0 e1 e2 e3 e4 e5 e6 e7 e8 e9 e10 e11 e12 e13 e14 e15 e16 e17 e18
  have HT := n0_
  clear n0_
  obtain ⟨c0, c1, c2, c3, c4, c5, c6, c7, c8, c9, c10, c11, c12, c13, c14, c15, c16, c17, c18⟩ := HT.out.fr.cells
  obtain ⟨e0, e1, e2, e3, e4, e5, e6, e7, e8, e9, e10, e11, e12, e13, e14, e15, e16, e17, e18⟩ := HT.out.fg.cells
  have hfr := HT.out.fg.frees
  go_upto_region 5 with (fail)
  have n0_ := Aside0.mk ((HT.out.put 4 (.int .u16 f.dinc) (gP f) rfl))
  clear HT hfr c0 c1 c2 c3 c4 c5 c6 c7 c8 c9 c10 c11 c12 c13 c14 c15 c16 c17 c18 e0 e1 e2 e3 e4 e5 e6 e7 e8 e9 e10 e11 e12 e13 e14 e15 e16 e17 e18
  have HT := n0_
  clear n0_
  obtain ⟨c0, c1, c2, c3, c4, c5, c6, c7, c8, c9, c10, c11, c12, c13, c14, c15, c16, c17, c18⟩ := HT.out.fr.cells
  obtain ⟨e0, e1, e2, e3, e4, e5, e6, e7, e8, e9, e10, e11, e12, e13, e14, e15, e16, e17, e18⟩ := HT.out.fg.cells
  have hfr := HT.out.fg.frees
  go_upto_region 16 with (fail)
  obtain ⟨g, hg⟩ : ∃ g, gP f = g := ⟨_, rfl⟩
  rw [hg] at HT
  have HG := Aside0.mk hg
  clear hg c0 c1 c2 c3 c4 c5 c6 c7 c8 c9 c10 c11 c12 c13 c14 c15 c16 c17 c18 e0 e1 e2 e3 e4 e5 e6 e7 e8 e9 e10 e11 e12 e13 e14 e15 e16 e17 e18 hfr
  obtain ⟨c0, c1, c2, c3, c4, c5, c6, c7, c8, c9, c10, c11, c12, c13, c14, c15, c16, c17, c18⟩ := HT.out.fr.cells
  by_cases hfg : f = g
  · subst hfg
    by_cases h0 : f.src < 32
    · have d3 : decide (f.src < 32) = true := decide_eq_true h0
      have H0 := Aside0.mk h0
      clear h0
      by_cases h1 : f.dst < 32
      · have d4 : decide (f.dst < 32) = true := decide_eq_true h1
        have H1 := Aside0.mk h1
        clear h1
        by_cases h2 : f.ea < 32
        · have d5 : decide (f.ea < 32) = true := decide_eq_true h2
          have H2 := Aside0.mk h2
          clear h2
          by_cases h3 : f.ha < 32
          · have d6 : decide (f.ha < 32) = true := decide_eq_true h3
            have H3 := Aside0.mk h3
            clear h3
            go_wp2_with (first | ((with_reducible refine gate_dst (N := 98) rfl ?_); refine wpList_load_row rfl 29 (.tmp 1) rfl _ rfl 29 (FC (f)) (0, 0) _ (HT.out.fr) Tryd.underlying29 rfl (by kernel_rfl) ?_) | ((with_reducible refine gate_dst (N := 99) rfl ?_); refine wpList_load_row rfl 29 (.tmp 3) rfl _ rfl 29 (FC (f)) (0, 0) _ (HT.out.fg) Tryd.underlying29 rfl (by kernel_rfl) ?_))
            all_goals go_ret
            all_goals exact ⟨ret_b ((HV.out.1 HG.out.symm).1 ⟨H0.out, H1.out, H2.out, H3.out⟩).symm, HT.out.below⟩
          · have d6 : decide (f.ha < 32) = false := decide_eq_false h3
            have H3 := Aside0.mk h3
            clear h3
            go_wp2_with (first | ((with_reducible refine gate_dst (N := 98) rfl ?_); refine wpList_load_row rfl 29 (.tmp 1) rfl _ rfl 29 (FC (f)) (0, 0) _ (HT.out.fr) Tryd.underlying29 rfl (by kernel_rfl) ?_) | ((with_reducible refine gate_dst (N := 99) rfl ?_); refine wpList_load_row rfl 29 (.tmp 3) rfl _ rfl 29 (FC (f)) (0, 0) _ (HT.out.fg) Tryd.underlying29 rfl (by kernel_rfl) ?_))
            all_goals go_ret
            all_goals exact ⟨ret_b ((HV.out.1 HG.out.symm).2 (fun h => absurd h.2.2.2 (by have h_ := H3.out; omega))).symm, HT.out.below⟩
        · have d5 : decide (f.ea < 32) = false := decide_eq_false h2
          have H2 := Aside0.mk h2
          clear h2
          go_wp2_with (first | ((with_reducible refine gate_dst (N := 98) rfl ?_); refine wpList_load_row rfl 29 (.tmp 1) rfl _ rfl 29 (FC (f)) (0, 0) _ (HT.out.fr) Tryd.underlying29 rfl (by kernel_rfl) ?_) | ((with_reducible refine gate_dst (N := 99) rfl ?_); refine wpList_load_row rfl 29 (.tmp 3) rfl _ rfl 29 (FC (f)) (0, 0) _ (HT.out.fg) Tryd.underlying29 rfl (by kernel_rfl) ?_))
          all_goals go_ret
          all_goals exact ⟨ret_b ((HV.out.1 HG.out.symm).2 (fun h => absurd h.2.2.1 (by have h_ := H2.out; omega))).symm, HT.out.below⟩
      · have d4 : decide (f.dst < 32) = false := decide_eq_false h1
        have H1 := Aside0.mk h1
        clear h1
        go_wp2_with (first | ((with_reducible refine gate_dst (N := 98) rfl ?_); refine wpList_load_row rfl 29 (.tmp 1) rfl _ rfl 29 (FC (f)) (0, 0) _ (HT.out.fr) Tryd.underlying29 rfl (by kernel_rfl) ?_) | ((with_reducible refine gate_dst (N := 99) rfl ?_); refine wpList_load_row rfl 29 (.tmp 3) rfl _ rfl 29 (FC (f)) (0, 0) _ (HT.out.fg) Tryd.underlying29 rfl (by kernel_rfl) ?_))
        all_goals go_ret
        all_goals exact ⟨ret_b ((HV.out.1 HG.out.symm).2 (fun h => absurd h.2.1 (by have h_ := H1.out; omega))).symm, HT.out.below⟩
    · have d3 : decide (f.src < 32) = false := decide_eq_false h0
      have H0 := Aside0.mk h0
      clear h0
      go_wp2_with (first | ((with_reducible refine gate_dst (N := 98) rfl ?_); refine wpList_load_row rfl 29 (.tmp 1) rfl _ rfl 29 (FC (f)) (0, 0) _ (HT.out.fr) Tryd.underlying29 rfl (by kernel_rfl) ?_) | ((with_reducible refine gate_dst (N := 99) rfl ?_); refine wpList_load_row rfl 29 (.tmp 3) rfl _ rfl 29 (FC (f)) (0, 0) _ (HT.out.fg) Tryd.underlying29 rfl (by kernel_rfl) ?_))
      all_goals go_ret
      all_goals exact ⟨ret_b ((HV.out.1 HG.out.symm).2 (fun h => absurd h.1 (by have h_ := H0.out; omega))).symm, HT.out.below⟩
  · have heq : ∀ W, (binOp .eql 29 (.agg (FC f)) (.agg (FC g))).run Tryd.prog W = .ok (.bool false) W := fun W => eq_no f g hfg W
    have HF := Aside0.mk hfg
    clear hfg
    go_wp2_with (first | ((with_reducible refine gate_dst (N := 98) rfl ?_); refine wpList_load_row rfl 29 (.tmp 1) rfl _ rfl 29 (FC (f)) (0, 0) _ (HT.out.fr) Tryd.underlying29 rfl (by kernel_rfl) ?_) | ((with_reducible refine gate_dst (N := 99) rfl ?_); refine wpList_load_row rfl 29 (.tmp 3) rfl _ rfl 29 (FC (g)) (0, 0) _ (HT.out.fg) Tryd.underlying29 rfl (by kernel_rfl) ?_))
    all_goals go_ret
    all_goals exact ⟨ret_b (HV.out.2 (by rw [HG.out]; exact HF.out)).symm, HT.out.below⟩
set_option maxHeartbeats 4000000 in
set_option maxRecDepth 100000 in
theorem rr_k5 (w : World) (f : Fr) (hr : Rng f) (hk : f.kind = 5) :
    Calls Tryd.prog 10 #[.agg (FC f)] w fun e w' => e = .returned (.bool (right f)) ∧ Below w.heap.size w w' := by
  have hkr : decide (1 ≤ f.kind) = true := decide_eq_true (by omega)
  have hkr2 : decide (f.kind ≤ 5) = true := decide_eq_true (by omega)
  have k1 : (f.kind == 1) = false := beq_eq_false_iff_ne.2 (by omega)
  have k2 : (f.kind == 2) = false := beq_eq_false_iff_ne.2 (by omega)
  have k3 : (f.kind == 3) = false := beq_eq_false_iff_ne.2 (by omega)
  have k4 : (f.kind == 4) = false := beq_eq_false_iff_ne.2 (by omega)
  have k5 : (f.kind == 5) = true := beq_iff_eq.2 hk
  have HV := Aside0.mk (ans_P f (by omega))
  clear hk hr
  obtain ⟨W1, hW, hlk, ht⟩ := T2.start w f
  have HW := Aside0.mk hW
  have HLK := Aside0.mk hlk
  have HT := Aside0.mk ht
  have HN := Aside0.mk (FAt.new w f)
  obtain ⟨c0, c1, c2, c3, c4, c5, c6, c7, c8, c9, c10, c11, c12, c13, c14, c15, c16, c17, c18⟩ := HN.out.cells
  clear hW hlk ht
  go_enter Tryd.func10, Tryd.ntmps10
  go_upto_region 2 with (first | ((with_reducible refine gate_store (t := 29) (p := 3) rfl ?_); refine wpList_store_row rfl 29 (.tmp 3) (.tmp 14) rfl _ (FC (gbase f)) rfl rfl 29 _ HLK.out (by kernel_rfl) rfl (fc_one _) ?_; refine (congrArg (fun W => wpList Tryd.prog _ _ _ _ W) HW.out).mpr ?_; clear HW HLK))
  clear HN c0 c1 c2 c3 c4 c5 c6 c7 c8 c9 c10 c11 c12 c13 c14 c15 c16 c17 c18
  obtain ⟨c0, c1, c2, c3, c4, c5, c6, c7, c8, c9, c10, c11, c12, c13, c14, c15, c16, c17, c18⟩ := HT.out.fr.cells
  obtain ⟨e0, e1, e2, e3, e4, e5, e6, e7, e8, e9, e10, e11, e12, e13, e14, e15, e16, e17, e18⟩ := HT.out.fg.cells
  have hfr := HT.out.fg.frees
  generalize w.heap.size + 1 = G at *
  generalize hEq : w.heap.size = E at *
  have HSZ := Aside0.mk hEq
  clear hEq
  go_upto_region 4 with (fail)
  have n0_ := Aside0.mk ((HT.out.put 2 (.int .u8 f.dst) ({ gbase f with dst := f.dst }) rfl))
  clear HT hfr c0 c1 c2 c3 c4 c5 c6 c7 c8 c9 c10 c11 c12 c13 c14 c15 c16 c17 c18 e0 e1 e2 e3 e4 e5 e6 e7 e8 e9 e10 e11 e12 e13 e14 e15 e16 e17 e18
  have HT := n0_
  clear n0_
  obtain ⟨c0, c1, c2, c3, c4, c5, c6, c7, c8, c9, c10, c11, c12, c13, c14, c15, c16, c17, c18⟩ := HT.out.fr.cells
  obtain ⟨e0, e1, e2, e3, e4, e5, e6, e7, e8, e9, e10, e11, e12, e13, e14, e15, e16, e17, e18⟩ := HT.out.fg.cells
  have hfr := HT.out.fg.frees
  go_upto_region 5 with (fail)
  have n0_ := Aside0.mk ((HT.out.put 4 (.int .u16 f.dinc) (gP f) rfl))
  clear HT hfr c0 c1 c2 c3 c4 c5 c6 c7 c8 c9 c10 c11 c12 c13 c14 c15 c16 c17 c18 e0 e1 e2 e3 e4 e5 e6 e7 e8 e9 e10 e11 e12 e13 e14 e15 e16 e17 e18
  have HT := n0_
  clear n0_
  obtain ⟨c0, c1, c2, c3, c4, c5, c6, c7, c8, c9, c10, c11, c12, c13, c14, c15, c16, c17, c18⟩ := HT.out.fr.cells
  obtain ⟨e0, e1, e2, e3, e4, e5, e6, e7, e8, e9, e10, e11, e12, e13, e14, e15, e16, e17, e18⟩ := HT.out.fg.cells
  have hfr := HT.out.fg.frees
  go_upto_region 16 with (fail)
  obtain ⟨g, hg⟩ : ∃ g, gP f = g := ⟨_, rfl⟩
  rw [hg] at HT
  have HG := Aside0.mk hg
  clear hg c0 c1 c2 c3 c4 c5 c6 c7 c8 c9 c10 c11 c12 c13 c14 c15 c16 c17 c18 e0 e1 e2 e3 e4 e5 e6 e7 e8 e9 e10 e11 e12 e13 e14 e15 e16 e17 e18 hfr
  obtain ⟨c0, c1, c2, c3, c4, c5, c6, c7, c8, c9, c10, c11, c12, c13, c14, c15, c16, c17, c18⟩ := HT.out.fr.cells
  by_cases hfg : f = g
  · subst hfg
    by_cases h0 : f.src < 32
    · have d3 : decide (f.src < 32) = true := decide_eq_true h0
      have H0 := Aside0.mk h0
      clear h0
      by_cases h1 : f.dst < 32
      · have d4 : decide (f.dst < 32) = true := decide_eq_true h1
        have H1 := Aside0.mk h1
        clear h1
        by_cases h2 : f.ea < 32
        · have d5 : decide (f.ea < 32) = true := decide_eq_true h2
          have H2 := Aside0.mk h2
          clear h2
          by_cases h3 : f.ha < 32
          · have d6 : decide (f.ha < 32) = true := decide_eq_true h3
            have H3 := Aside0.mk h3
            clear h3
            go_wp2_with (first | ((with_reducible refine gate_dst (N := 98) rfl ?_); refine wpList_load_row rfl 29 (.tmp 1) rfl _ rfl 29 (FC (f)) (0, 0) _ (HT.out.fr) Tryd.underlying29 rfl (by kernel_rfl) ?_) | ((with_reducible refine gate_dst (N := 99) rfl ?_); refine wpList_load_row rfl 29 (.tmp 3) rfl _ rfl 29 (FC (f)) (0, 0) _ (HT.out.fg) Tryd.underlying29 rfl (by kernel_rfl) ?_))
            all_goals go_ret
            all_goals exact ⟨ret_b ((HV.out.1 HG.out.symm).1 ⟨H0.out, H1.out, H2.out, H3.out⟩).symm, HT.out.below⟩
          · have d6 : decide (f.ha < 32) = false := decide_eq_false h3
            have H3 := Aside0.mk h3
            clear h3
            go_wp2_with (first | ((with_reducible refine gate_dst (N := 98) rfl ?_); refine wpList_load_row rfl 29 (.tmp 1) rfl _ rfl 29 (FC (f)) (0, 0) _ (HT.out.fr) Tryd.underlying29 rfl (by kernel_rfl) ?_) | ((with_reducible refine gate_dst (N := 99) rfl ?_); refine wpList_load_row rfl 29 (.tmp 3) rfl _ rfl 29 (FC (f)) (0, 0) _ (HT.out.fg) Tryd.underlying29 rfl (by kernel_rfl) ?_))
            all_goals go_ret
            all_goals exact ⟨ret_b ((HV.out.1 HG.out.symm).2 (fun h => absurd h.2.2.2 (by have h_ := H3.out; omega))).symm, HT.out.below⟩
        · have d5 : decide (f.ea < 32) = false := decide_eq_false h2
          have H2 := Aside0.mk h2
          clear h2
          go_wp2_with (first | ((with_reducible refine gate_dst (N := 98) rfl ?_); refine wpList_load_row rfl 29 (.tmp 1) rfl _ rfl 29 (FC (f)) (0, 0) _ (HT.out.fr) Tryd.underlying29 rfl (by kernel_rfl) ?_) | ((with_reducible refine gate_dst (N := 99) rfl ?_); refine wpList_load_row rfl 29 (.tmp 3) rfl _ rfl 29 (FC (f)) (0, 0) _ (HT.out.fg) Tryd.underlying29 rfl (by kernel_rfl) ?_))
          all_goals go_ret
          all_goals exact ⟨ret_b ((HV.out.1 HG.out.symm).2 (fun h => absurd h.2.2.1 (by have h_ := H2.out; omega))).symm, HT.out.below⟩
      · have d4 : decide (f.dst < 32) = false := decide_eq_false h1
        have H1 := Aside0.mk h1
        clear h1
        go_wp2_with (first | ((with_reducible refine gate_dst (N := 98) rfl ?_); refine wpList_load_row rfl 29 (.tmp 1) rfl _ rfl 29 (FC (f)) (0, 0) _ (HT.out.fr) Tryd.underlying29 rfl (by kernel_rfl) ?_) | ((with_reducible refine gate_dst (N := 99) rfl ?_); refine wpList_load_row rfl 29 (.tmp 3) rfl _ rfl 29 (FC (f)) (0, 0) _ (HT.out.fg) Tryd.underlying29 rfl (by kernel_rfl) ?_))
        all_goals go_ret
        all_goals exact ⟨ret_b ((HV.out.1 HG.out.symm).2 (fun h => absurd h.2.1 (by have h_ := H1.out; omega))).symm, HT.out.below⟩
    · have d3 : decide (f.src < 32) = false := decide_eq_false h0
      have H0 := Aside0.mk h0
      clear h0
      go_wp2_with (first | ((with_reducible refine gate_dst (N := 98) rfl ?_); refine wpList_load_row rfl 29 (.tmp 1) rfl _ rfl 29 (FC (f)) (0, 0) _ (HT.out.fr) Tryd.underlying29 rfl (by kernel_rfl) ?_) | ((with_reducible refine gate_dst (N := 99) rfl ?_); refine wpList_load_row rfl 29 (.tmp 3) rfl _ rfl 29 (FC (f)) (0, 0) _ (HT.out.fg) Tryd.underlying29 rfl (by kernel_rfl) ?_))
      all_goals go_ret
      all_goals exact ⟨ret_b ((HV.out.1 HG.out.symm).2 (fun h => absurd h.1 (by have h_ := H0.out; omega))).symm, HT.out.below⟩
  · have heq : ∀ W, (binOp .eql 29 (.agg (FC f)) (.agg (FC g))).run Tryd.prog W = .ok (.bool false) W := fun W => eq_no f g hfg W
    have HF := Aside0.mk hfg
    clear hfg
    go_wp2_with (first | ((with_reducible refine gate_dst (N := 98) rfl ?_); refine wpList_load_row rfl 29 (.tmp 1) rfl _ rfl 29 (FC (f)) (0, 0) _ (HT.out.fr) Tryd.underlying29 rfl (by kernel_rfl) ?_) | ((with_reducible refine gate_dst (N := 99) rfl ?_); refine wpList_load_row rfl 29 (.tmp 3) rfl _ rfl 29 (FC (g)) (0, 0) _ (HT.out.fg) Tryd.underlying29 rfl (by kernel_rfl) ?_))
    all_goals go_ret
    all_goals exact ⟨ret_b (HV.out.2 (by rw [HG.out]; exact HF.out)).symm, HT.out.below⟩
set_option maxHeartbeats 4000000 in
set_option maxRecDepth 100000 in
theorem rr_k3 (w : World) (f : Fr) (hr : Rng f) (hk : f.kind = 3) :
    Calls Tryd.prog 10 #[.agg (FC f)] w fun e w' => e = .returned (.bool (right f)) ∧ Below w.heap.size w w' := by
  have hkr : decide (1 ≤ f.kind) = true := decide_eq_true (by omega)
  have hkr2 : decide (f.kind ≤ 5) = true := decide_eq_true (by omega)
  have k1 : (f.kind == 1) = false := beq_eq_false_iff_ne.2 (by omega)
  have k2 : (f.kind == 2) = false := beq_eq_false_iff_ne.2 (by omega)
  have k3 : (f.kind == 3) = true := beq_iff_eq.2 hk
  have k4 : (f.kind == 4) = false := beq_eq_false_iff_ne.2 (by omega)
  have k5 : (f.kind == 5) = false := beq_eq_false_iff_ne.2 (by omega)
  have HV := Aside0.mk (ans_3 f hk)
  clear hk hr
  obtain ⟨W1, hW, hlk, ht⟩ := T2.start w f
  have HW := Aside0.mk hW
  have HLK := Aside0.mk hlk
  have HT := Aside0.mk ht
  have HN := Aside0.mk (FAt.new w f)
  obtain ⟨c0, c1, c2, c3, c4, c5, c6, c7, c8, c9, c10, c11, c12, c13, c14, c15, c16, c17, c18⟩ := HN.out.cells
  clear hW hlk ht
  go_enter Tryd.func10, Tryd.ntmps10
  go_upto_region 2 with (first | ((with_reducible refine gate_store (t := 29) (p := 3) rfl ?_); refine wpList_store_row rfl 29 (.tmp 3) (.tmp 14) rfl _ (FC (gbase f)) rfl rfl 29 _ HLK.out (by kernel_rfl) rfl (fc_one _) ?_; refine (congrArg (fun W => wpList Tryd.prog _ _ _ _ W) HW.out).mpr ?_; clear HW HLK))
  clear HN c0 c1 c2 c3 c4 c5 c6 c7 c8 c9 c10 c11 c12 c13 c14 c15 c16 c17 c18
  obtain ⟨c0, c1, c2, c3, c4, c5, c6, c7, c8, c9, c10, c11, c12, c13, c14, c15, c16, c17, c18⟩ := HT.out.fr.cells
  obtain ⟨e0, e1, e2, e3, e4, e5, e6, e7, e8, e9, e10, e11, e12, e13, e14, e15, e16, e17, e18⟩ := HT.out.fg.cells
  have hfr := HT.out.fg.frees
  generalize w.heap.size + 1 = G at *
  generalize hEq : w.heap.size = E at *
  have HSZ := Aside0.mk hEq
  clear hEq
  go_upto_region 4 with (fail)
  have n0_ := Aside0.mk ((HT.out.put 2 (.int .u8 f.dst) ({ gbase f with dst := f.dst }) rfl))
  clear HT hfr c0 c1 c2 c3 c4 c5 c6 c7 c8 c9 c10 c11 c12 c13 c14 c15 c16 c17 c18 e0 e1 e2 e3 e4 e5 e6 e7 e8 e9 e10 e11 e12 e13 e14 e15 e16 e17 e18
  have HT := n0_
  clear n0_
  obtain ⟨c0, c1, c2, c3, c4, c5, c6, c7, c8, c9, c10, c11, c12, c13, c14, c15, c16, c17, c18⟩ := HT.out.fr.cells
  obtain ⟨e0, e1, e2, e3, e4, e5, e6, e7, e8, e9, e10, e11, e12, e13, e14, e15, e16, e17, e18⟩ := HT.out.fg.cells
  have hfr := HT.out.fg.frees
  go_upto_region 5 with (fail)
  have n0_ := Aside0.mk ((HT.out.put 4 (.int .u16 f.dinc) (gP f) rfl))
  clear HT hfr c0 c1 c2 c3 c4 c5 c6 c7 c8 c9 c10 c11 c12 c13 c14 c15 c16 c17 c18 e0 e1 e2 e3 e4 e5 e6 e7 e8 e9 e10 e11 e12 e13 e14 e15 e16 e17 e18
  have HT := n0_
  clear n0_
  obtain ⟨c0, c1, c2, c3, c4, c5, c6, c7, c8, c9, c10, c11, c12, c13, c14, c15, c16, c17, c18⟩ := HT.out.fr.cells
  obtain ⟨e0, e1, e2, e3, e4, e5, e6, e7, e8, e9, e10, e11, e12, e13, e14, e15, e16, e17, e18⟩ := HT.out.fg.cells
  have hfr := HT.out.fg.frees
  go_upto_region 7 with (fail)
  have n0_ := Aside0.mk ((((HT.out.put 9 (.int .u16 f.hc) ({ gP f with hc := f.hc }) rfl).put 10 (.int .u8 f.ha) ({ gP f with hc := f.hc, ha := f.ha }) rfl).put 11 (.int .u16 f.hi) ({ gP f with hc := f.hc, ha := f.ha, hi := f.hi }) rfl))
  clear HT hfr c0 c1 c2 c3 c4 c5 c6 c7 c8 c9 c10 c11 c12 c13 c14 c15 c16 c17 c18 e0 e1 e2 e3 e4 e5 e6 e7 e8 e9 e10 e11 e12 e13 e14 e15 e16 e17 e18
  have HT := n0_
  clear n0_
  obtain ⟨c0, c1, c2, c3, c4, c5, c6, c7, c8, c9, c10, c11, c12, c13, c14, c15, c16, c17, c18⟩ := HT.out.fr.cells
  obtain ⟨e0, e1, e2, e3, e4, e5, e6, e7, e8, e9, e10, e11, e12, e13, e14, e15, e16, e17, e18⟩ := HT.out.fg.cells
  have hfr := HT.out.fg.frees
  go_upto_region 8 with (fail)
  have n0_ := Aside0.mk ((HT.out.put 12 (.bool f.wants) (g3 f) rfl))
  clear HT hfr c0 c1 c2 c3 c4 c5 c6 c7 c8 c9 c10 c11 c12 c13 c14 c15 c16 c17 c18 e0 e1 e2 e3 e4 e5 e6 e7 e8 e9 e10 e11 e12 e13 e14 e15 e16 e17 e18
  have HT := n0_
  clear n0_
  obtain ⟨c0, c1, c2, c3, c4, c5, c6, c7, c8, c9, c10, c11, c12, c13, c14, c15, c16, c17, c18⟩ := HT.out.fr.cells
  obtain ⟨e0, e1, e2, e3, e4, e5, e6, e7, e8, e9, e10, e11, e12, e13, e14, e15, e16, e17, e18⟩ := HT.out.fg.cells
  have hfr := HT.out.fg.frees
  go_upto_region 16 with (fail)
  obtain ⟨g, hg⟩ : ∃ g, g3 f = g := ⟨_, rfl⟩
  rw [hg] at HT
  have HG := Aside0.mk hg
  clear hg c0 c1 c2 c3 c4 c5 c6 c7 c8 c9 c10 c11 c12 c13 c14 c15 c16 c17 c18 e0 e1 e2 e3 e4 e5 e6 e7 e8 e9 e10 e11 e12 e13 e14 e15 e16 e17 e18 hfr
  obtain ⟨c0, c1, c2, c3, c4, c5, c6, c7, c8, c9, c10, c11, c12, c13, c14, c15, c16, c17, c18⟩ := HT.out.fr.cells
  by_cases hfg : f = g
  · subst hfg
    by_cases h0 : f.src < 32
    · have d3 : decide (f.src < 32) = true := decide_eq_true h0
      have H0 := Aside0.mk h0
      clear h0
      by_cases h1 : f.dst < 32
      · have d4 : decide (f.dst < 32) = true := decide_eq_true h1
        have H1 := Aside0.mk h1
        clear h1
        by_cases h2 : f.ea < 32
        · have d5 : decide (f.ea < 32) = true := decide_eq_true h2
          have H2 := Aside0.mk h2
          clear h2
          by_cases h3 : f.ha < 32
          · have d6 : decide (f.ha < 32) = true := decide_eq_true h3
            have H3 := Aside0.mk h3
            clear h3
            go_wp2_with (first | ((with_reducible refine gate_dst (N := 98) rfl ?_); refine wpList_load_row rfl 29 (.tmp 1) rfl _ rfl 29 (FC (f)) (0, 0) _ (HT.out.fr) Tryd.underlying29 rfl (by kernel_rfl) ?_) | ((with_reducible refine gate_dst (N := 99) rfl ?_); refine wpList_load_row rfl 29 (.tmp 3) rfl _ rfl 29 (FC (f)) (0, 0) _ (HT.out.fg) Tryd.underlying29 rfl (by kernel_rfl) ?_))
            all_goals go_ret
            all_goals exact ⟨ret_b ((HV.out.1 HG.out.symm).1 ⟨H0.out, H1.out, H2.out, H3.out⟩).symm, HT.out.below⟩
          · have d6 : decide (f.ha < 32) = false := decide_eq_false h3
            have H3 := Aside0.mk h3
            clear h3
            go_wp2_with (first | ((with_reducible refine gate_dst (N := 98) rfl ?_); refine wpList_load_row rfl 29 (.tmp 1) rfl _ rfl 29 (FC (f)) (0, 0) _ (HT.out.fr) Tryd.underlying29 rfl (by kernel_rfl) ?_) | ((with_reducible refine gate_dst (N := 99) rfl ?_); refine wpList_load_row rfl 29 (.tmp 3) rfl _ rfl 29 (FC (f)) (0, 0) _ (HT.out.fg) Tryd.underlying29 rfl (by kernel_rfl) ?_))
            all_goals go_ret
            all_goals exact ⟨ret_b ((HV.out.1 HG.out.symm).2 (fun h => absurd h.2.2.2 (by have h_ := H3.out; omega))).symm, HT.out.below⟩
        · have d5 : decide (f.ea < 32) = false := decide_eq_false h2
          have H2 := Aside0.mk h2
          clear h2
          go_wp2_with (first | ((with_reducible refine gate_dst (N := 98) rfl ?_); refine wpList_load_row rfl 29 (.tmp 1) rfl _ rfl 29 (FC (f)) (0, 0) _ (HT.out.fr) Tryd.underlying29 rfl (by kernel_rfl) ?_) | ((with_reducible refine gate_dst (N := 99) rfl ?_); refine wpList_load_row rfl 29 (.tmp 3) rfl _ rfl 29 (FC (f)) (0, 0) _ (HT.out.fg) Tryd.underlying29 rfl (by kernel_rfl) ?_))
          all_goals go_ret
          all_goals exact ⟨ret_b ((HV.out.1 HG.out.symm).2 (fun h => absurd h.2.2.1 (by have h_ := H2.out; omega))).symm, HT.out.below⟩
      · have d4 : decide (f.dst < 32) = false := decide_eq_false h1
        have H1 := Aside0.mk h1
        clear h1
        go_wp2_with (first | ((with_reducible refine gate_dst (N := 98) rfl ?_); refine wpList_load_row rfl 29 (.tmp 1) rfl _ rfl 29 (FC (f)) (0, 0) _ (HT.out.fr) Tryd.underlying29 rfl (by kernel_rfl) ?_) | ((with_reducible refine gate_dst (N := 99) rfl ?_); refine wpList_load_row rfl 29 (.tmp 3) rfl _ rfl 29 (FC (f)) (0, 0) _ (HT.out.fg) Tryd.underlying29 rfl (by kernel_rfl) ?_))
        all_goals go_ret
        all_goals exact ⟨ret_b ((HV.out.1 HG.out.symm).2 (fun h => absurd h.2.1 (by have h_ := H1.out; omega))).symm, HT.out.below⟩
    · have d3 : decide (f.src < 32) = false := decide_eq_false h0
      have H0 := Aside0.mk h0
      clear h0
      go_wp2_with (first | ((with_reducible refine gate_dst (N := 98) rfl ?_); refine wpList_load_row rfl 29 (.tmp 1) rfl _ rfl 29 (FC (f)) (0, 0) _ (HT.out.fr) Tryd.underlying29 rfl (by kernel_rfl) ?_) | ((with_reducible refine gate_dst (N := 99) rfl ?_); refine wpList_load_row rfl 29 (.tmp 3) rfl _ rfl 29 (FC (f)) (0, 0) _ (HT.out.fg) Tryd.underlying29 rfl (by kernel_rfl) ?_))
      all_goals go_ret
      all_goals exact ⟨ret_b ((HV.out.1 HG.out.symm).2 (fun h => absurd h.1 (by have h_ := H0.out; omega))).symm, HT.out.below⟩
  · have heq : ∀ W, (binOp .eql 29 (.agg (FC f)) (.agg (FC g))).run Tryd.prog W = .ok (.bool false) W := fun W => eq_no f g hfg W
    have HF := Aside0.mk hfg
    clear hfg
    go_wp2_with (first | ((with_reducible refine gate_dst (N := 98) rfl ?_); refine wpList_load_row rfl 29 (.tmp 1) rfl _ rfl 29 (FC (f)) (0, 0) _ (HT.out.fr) Tryd.underlying29 rfl (by kernel_rfl) ?_) | ((with_reducible refine gate_dst (N := 99) rfl ?_); refine wpList_load_row rfl 29 (.tmp 3) rfl _ rfl 29 (FC (g)) (0, 0) _ (HT.out.fg) Tryd.underlying29 rfl (by kernel_rfl) ?_))
    all_goals go_ret
    all_goals exact ⟨ret_b (HV.out.2 (by rw [HG.out]; exact HF.out)).symm, HT.out.below⟩
set_option maxHeartbeats 4000000 in
set_option maxRecDepth 100000 in
theorem rr_k4 (w : World) (f : Fr) (hr : Rng f) (hk : f.kind = 4) (ho : ok4 f) :
    Calls Tryd.prog 10 #[.agg (FC f)] w fun e w' => e = .returned (.bool (right f)) ∧ Below w.heap.size w w' := by
  have hkr : decide (1 ≤ f.kind) = true := decide_eq_true (by omega)
  have hkr2 : decide (f.kind ≤ 5) = true := decide_eq_true (by omega)
  have k1 : (f.kind == 1) = false := beq_eq_false_iff_ne.2 (by omega)
  have k2 : (f.kind == 2) = false := beq_eq_false_iff_ne.2 (by omega)
  have k3 : (f.kind == 3) = false := beq_eq_false_iff_ne.2 (by omega)
  have k4 : (f.kind == 4) = true := beq_iff_eq.2 hk
  have k5 : (f.kind == 5) = false := beq_eq_false_iff_ne.2 (by omega)
  have HV := Aside0.mk (ans_4 f hk ho)
  have f1 : decide (15 < f.blk) = false := decide_eq_false (by have h := ho; unfold ok4 at h; omega)
  have f2 : decide (f.parts < 1) = false := decide_eq_false (by have h := ho; unfold ok4 at h; omega)
  have f3 : decide (4 < f.parts) = false := decide_eq_false (by have h := ho; unfold ok4 at h; omega)
  have f4 : decide (f.parts ≤ f.part) = false := decide_eq_false (by have h := ho; unfold ok4 at h; omega)
  have f5 : decide ((f.bytes.size : Int) < 1) = false := decide_eq_false (by have h := ho; unfold ok4 at h; omega)
  have f6 : decide (16 < (f.bytes.size : Int)) = false := decide_eq_false (by have h := ho; unfold ok4 at h; omega)
  have f7 : decide (f.bytes.size < 1) = false := decide_eq_false (by have h := ho; unfold ok4 at h; omega)
  have f8 : decide (16 < f.bytes.size) = false := decide_eq_false (by have h := ho; unfold ok4 at h; omega)
  clear ho
  clear hk hr
  obtain ⟨W1, hW, hlk, ht⟩ := T2.start w f
  have HW := Aside0.mk hW
  have HLK := Aside0.mk hlk
  have HT := Aside0.mk ht
  have HN := Aside0.mk (FAt.new w f)
  obtain ⟨c0, c1, c2, c3, c4, c5, c6, c7, c8, c9, c10, c11, c12, c13, c14, c15, c16, c17, c18⟩ := HN.out.cells
  clear hW hlk ht
  go_enter Tryd.func10, Tryd.ntmps10
  go_upto_region 2 with (first | ((with_reducible refine gate_store (t := 29) (p := 3) rfl ?_); refine wpList_store_row rfl 29 (.tmp 3) (.tmp 14) rfl _ (FC (gbase f)) rfl rfl 29 _ HLK.out (by kernel_rfl) rfl (fc_one _) ?_; refine (congrArg (fun W => wpList Tryd.prog _ _ _ _ W) HW.out).mpr ?_; clear HW HLK))
  clear HN c0 c1 c2 c3 c4 c5 c6 c7 c8 c9 c10 c11 c12 c13 c14 c15 c16 c17 c18
  obtain ⟨c0, c1, c2, c3, c4, c5, c6, c7, c8, c9, c10, c11, c12, c13, c14, c15, c16, c17, c18⟩ := HT.out.fr.cells
  obtain ⟨e0, e1, e2, e3, e4, e5, e6, e7, e8, e9, e10, e11, e12, e13, e14, e15, e16, e17, e18⟩ := HT.out.fg.cells
  have hfr := HT.out.fg.frees
  generalize w.heap.size + 1 = G at *
  generalize hEq : w.heap.size = E at *
  have HSZ := Aside0.mk hEq
  clear hEq
  go_upto_region 10 with (fail)
  have n0_ := Aside0.mk ((HT.out.put 13 (.int .u8 f.blk) ({ gbase f with blk := f.blk }) rfl))
  clear HT hfr c0 c1 c2 c3 c4 c5 c6 c7 c8 c9 c10 c11 c12 c13 c14 c15 c16 c17 c18 e0 e1 e2 e3 e4 e5 e6 e7 e8 e9 e10 e11 e12 e13 e14 e15 e16 e17 e18
  have HT := n0_
  clear n0_
  obtain ⟨c0, c1, c2, c3, c4, c5, c6, c7, c8, c9, c10, c11, c12, c13, c14, c15, c16, c17, c18⟩ := HT.out.fr.cells
  obtain ⟨e0, e1, e2, e3, e4, e5, e6, e7, e8, e9, e10, e11, e12, e13, e14, e15, e16, e17, e18⟩ := HT.out.fg.cells
  have hfr := HT.out.fg.frees
  go_upto_region 11 with (fail)
  have n0_ := Aside0.mk (((HT.out.put 14 (.int .u16 f.vinc) ({ gbase f with blk := f.blk, vinc := f.vinc }) rfl).put 15 (.int .u32 f.vseq) ({ gbase f with blk := f.blk, vinc := f.vinc, vseq := f.vseq }) rfl))
  clear HT hfr c0 c1 c2 c3 c4 c5 c6 c7 c8 c9 c10 c11 c12 c13 c14 c15 c16 c17 c18 e0 e1 e2 e3 e4 e5 e6 e7 e8 e9 e10 e11 e12 e13 e14 e15 e16 e17 e18
  have HT := n0_
  clear n0_
  obtain ⟨c0, c1, c2, c3, c4, c5, c6, c7, c8, c9, c10, c11, c12, c13, c14, c15, c16, c17, c18⟩ := HT.out.fr.cells
  obtain ⟨e0, e1, e2, e3, e4, e5, e6, e7, e8, e9, e10, e11, e12, e13, e14, e15, e16, e17, e18⟩ := HT.out.fg.cells
  have hfr := HT.out.fg.frees
  go_upto_region 12 with (fail)
  have n0_ := Aside0.mk ((HT.out.put 16 (.int .u8 f.part) ({ gbase f with blk := f.blk, vinc := f.vinc, vseq := f.vseq, part := f.part }) rfl))
  clear HT hfr c0 c1 c2 c3 c4 c5 c6 c7 c8 c9 c10 c11 c12 c13 c14 c15 c16 c17 c18 e0 e1 e2 e3 e4 e5 e6 e7 e8 e9 e10 e11 e12 e13 e14 e15 e16 e17 e18
  have HT := n0_
  clear n0_
  obtain ⟨c0, c1, c2, c3, c4, c5, c6, c7, c8, c9, c10, c11, c12, c13, c14, c15, c16, c17, c18⟩ := HT.out.fr.cells
  obtain ⟨e0, e1, e2, e3, e4, e5, e6, e7, e8, e9, e10, e11, e12, e13, e14, e15, e16, e17, e18⟩ := HT.out.fg.cells
  have hfr := HT.out.fg.frees
  go_upto_region 13 with (fail)
  have n0_ := Aside0.mk ((HT.out.put 17 (.int .u8 f.parts) ({ gbase f with blk := f.blk, vinc := f.vinc, vseq := f.vseq, part := f.part, parts := f.parts }) rfl))
  clear HT hfr c0 c1 c2 c3 c4 c5 c6 c7 c8 c9 c10 c11 c12 c13 c14 c15 c16 c17 c18 e0 e1 e2 e3 e4 e5 e6 e7 e8 e9 e10 e11 e12 e13 e14 e15 e16 e17 e18
  have HT := n0_
  clear n0_
  obtain ⟨c0, c1, c2, c3, c4, c5, c6, c7, c8, c9, c10, c11, c12, c13, c14, c15, c16, c17, c18⟩ := HT.out.fr.cells
  obtain ⟨e0, e1, e2, e3, e4, e5, e6, e7, e8, e9, e10, e11, e12, e13, e14, e15, e16, e17, e18⟩ := HT.out.fg.cells
  have hfr := HT.out.fg.frees
  go_upto_region 14 with (fail)
  have n0_ := Aside0.mk ((HT.out.put 18 (.string f.bytes) (g4 f) rfl))
  clear HT hfr c0 c1 c2 c3 c4 c5 c6 c7 c8 c9 c10 c11 c12 c13 c14 c15 c16 c17 c18 e0 e1 e2 e3 e4 e5 e6 e7 e8 e9 e10 e11 e12 e13 e14 e15 e16 e17 e18
  have HT := n0_
  clear n0_
  obtain ⟨c0, c1, c2, c3, c4, c5, c6, c7, c8, c9, c10, c11, c12, c13, c14, c15, c16, c17, c18⟩ := HT.out.fr.cells
  obtain ⟨e0, e1, e2, e3, e4, e5, e6, e7, e8, e9, e10, e11, e12, e13, e14, e15, e16, e17, e18⟩ := HT.out.fg.cells
  have hfr := HT.out.fg.frees
  go_upto_region 16 with (fail)
  obtain ⟨g, hg⟩ : ∃ g, g4 f = g := ⟨_, rfl⟩
  rw [hg] at HT
  have HG := Aside0.mk hg
  clear hg c0 c1 c2 c3 c4 c5 c6 c7 c8 c9 c10 c11 c12 c13 c14 c15 c16 c17 c18 e0 e1 e2 e3 e4 e5 e6 e7 e8 e9 e10 e11 e12 e13 e14 e15 e16 e17 e18 hfr
  obtain ⟨c0, c1, c2, c3, c4, c5, c6, c7, c8, c9, c10, c11, c12, c13, c14, c15, c16, c17, c18⟩ := HT.out.fr.cells
  by_cases hfg : f = g
  · subst hfg
    by_cases h0 : f.src < 32
    · have d3 : decide (f.src < 32) = true := decide_eq_true h0
      have H0 := Aside0.mk h0
      clear h0
      by_cases h1 : f.dst < 32
      · have d4 : decide (f.dst < 32) = true := decide_eq_true h1
        have H1 := Aside0.mk h1
        clear h1
        by_cases h2 : f.ea < 32
        · have d5 : decide (f.ea < 32) = true := decide_eq_true h2
          have H2 := Aside0.mk h2
          clear h2
          by_cases h3 : f.ha < 32
          · have d6 : decide (f.ha < 32) = true := decide_eq_true h3
            have H3 := Aside0.mk h3
            clear h3
            go_wp2_with (first | ((with_reducible refine gate_dst (N := 98) rfl ?_); refine wpList_load_row rfl 29 (.tmp 1) rfl _ rfl 29 (FC (f)) (0, 0) _ (HT.out.fr) Tryd.underlying29 rfl (by kernel_rfl) ?_) | ((with_reducible refine gate_dst (N := 99) rfl ?_); refine wpList_load_row rfl 29 (.tmp 3) rfl _ rfl 29 (FC (f)) (0, 0) _ (HT.out.fg) Tryd.underlying29 rfl (by kernel_rfl) ?_))
            all_goals go_ret
            all_goals exact ⟨ret_b ((HV.out.1 HG.out.symm).1 ⟨H0.out, H1.out, H2.out, H3.out⟩).symm, HT.out.below⟩
          · have d6 : decide (f.ha < 32) = false := decide_eq_false h3
            have H3 := Aside0.mk h3
            clear h3
            go_wp2_with (first | ((with_reducible refine gate_dst (N := 98) rfl ?_); refine wpList_load_row rfl 29 (.tmp 1) rfl _ rfl 29 (FC (f)) (0, 0) _ (HT.out.fr) Tryd.underlying29 rfl (by kernel_rfl) ?_) | ((with_reducible refine gate_dst (N := 99) rfl ?_); refine wpList_load_row rfl 29 (.tmp 3) rfl _ rfl 29 (FC (f)) (0, 0) _ (HT.out.fg) Tryd.underlying29 rfl (by kernel_rfl) ?_))
            all_goals go_ret
            all_goals exact ⟨ret_b ((HV.out.1 HG.out.symm).2 (fun h => absurd h.2.2.2 (by have h_ := H3.out; omega))).symm, HT.out.below⟩
        · have d5 : decide (f.ea < 32) = false := decide_eq_false h2
          have H2 := Aside0.mk h2
          clear h2
          go_wp2_with (first | ((with_reducible refine gate_dst (N := 98) rfl ?_); refine wpList_load_row rfl 29 (.tmp 1) rfl _ rfl 29 (FC (f)) (0, 0) _ (HT.out.fr) Tryd.underlying29 rfl (by kernel_rfl) ?_) | ((with_reducible refine gate_dst (N := 99) rfl ?_); refine wpList_load_row rfl 29 (.tmp 3) rfl _ rfl 29 (FC (f)) (0, 0) _ (HT.out.fg) Tryd.underlying29 rfl (by kernel_rfl) ?_))
          all_goals go_ret
          all_goals exact ⟨ret_b ((HV.out.1 HG.out.symm).2 (fun h => absurd h.2.2.1 (by have h_ := H2.out; omega))).symm, HT.out.below⟩
      · have d4 : decide (f.dst < 32) = false := decide_eq_false h1
        have H1 := Aside0.mk h1
        clear h1
        go_wp2_with (first | ((with_reducible refine gate_dst (N := 98) rfl ?_); refine wpList_load_row rfl 29 (.tmp 1) rfl _ rfl 29 (FC (f)) (0, 0) _ (HT.out.fr) Tryd.underlying29 rfl (by kernel_rfl) ?_) | ((with_reducible refine gate_dst (N := 99) rfl ?_); refine wpList_load_row rfl 29 (.tmp 3) rfl _ rfl 29 (FC (f)) (0, 0) _ (HT.out.fg) Tryd.underlying29 rfl (by kernel_rfl) ?_))
        all_goals go_ret
        all_goals exact ⟨ret_b ((HV.out.1 HG.out.symm).2 (fun h => absurd h.2.1 (by have h_ := H1.out; omega))).symm, HT.out.below⟩
    · have d3 : decide (f.src < 32) = false := decide_eq_false h0
      have H0 := Aside0.mk h0
      clear h0
      go_wp2_with (first | ((with_reducible refine gate_dst (N := 98) rfl ?_); refine wpList_load_row rfl 29 (.tmp 1) rfl _ rfl 29 (FC (f)) (0, 0) _ (HT.out.fr) Tryd.underlying29 rfl (by kernel_rfl) ?_) | ((with_reducible refine gate_dst (N := 99) rfl ?_); refine wpList_load_row rfl 29 (.tmp 3) rfl _ rfl 29 (FC (f)) (0, 0) _ (HT.out.fg) Tryd.underlying29 rfl (by kernel_rfl) ?_))
      all_goals go_ret
      all_goals exact ⟨ret_b ((HV.out.1 HG.out.symm).2 (fun h => absurd h.1 (by have h_ := H0.out; omega))).symm, HT.out.below⟩
  · have heq : ∀ W, (binOp .eql 29 (.agg (FC f)) (.agg (FC g))).run Tryd.prog W = .ok (.bool false) W := fun W => eq_no f g hfg W
    have HF := Aside0.mk hfg
    clear hfg
    go_wp2_with (first | ((with_reducible refine gate_dst (N := 98) rfl ?_); refine wpList_load_row rfl 29 (.tmp 1) rfl _ rfl 29 (FC (f)) (0, 0) _ (HT.out.fr) Tryd.underlying29 rfl (by kernel_rfl) ?_) | ((with_reducible refine gate_dst (N := 99) rfl ?_); refine wpList_load_row rfl 29 (.tmp 3) rfl _ rfl 29 (FC (g)) (0, 0) _ (HT.out.fg) Tryd.underlying29 rfl (by kernel_rfl) ?_))
    all_goals go_ret
    all_goals exact ⟨ret_b (HV.out.2 (by rw [HG.out]; exact HF.out)).symm, HT.out.below⟩
set_option maxHeartbeats 4000000 in
set_option maxRecDepth 100000 in
theorem rr_bad4 (w : World) (f : Fr) (hr : Rng f) (hk : f.kind = 4) (ho : ¬ ok4 f) :
    Calls Tryd.prog 10 #[.agg (FC f)] w fun e w' => e = .returned (.bool (right f)) ∧ Below w.heap.size w w' := by
  have k1 : (f.kind == 1) = false := beq_eq_false_iff_ne.2 (by omega)
  have k2 : (f.kind == 2) = false := beq_eq_false_iff_ne.2 (by omega)
  have k3 : (f.kind == 3) = false := beq_eq_false_iff_ne.2 (by omega)
  have k4 : (f.kind == 4) = true := beq_iff_eq.2 hk
  have k5 : (f.kind == 5) = false := beq_eq_false_iff_ne.2 (by omega)
  have HV := Aside0.mk (bad4 f hk ho)
  have HO := Aside0.mk ho
  clear hk hr ho
  obtain ⟨W1, hW, hlk, ht⟩ := T2.start w f
  have HW := Aside0.mk hW
  have HLK := Aside0.mk hlk
  have HT := Aside0.mk ht
  have HN := Aside0.mk (FAt.new w f)
  obtain ⟨c0, c1, c2, c3, c4, c5, c6, c7, c8, c9, c10, c11, c12, c13, c14, c15, c16, c17, c18⟩ := HN.out.cells
  clear hW hlk ht
  go_enter Tryd.func10, Tryd.ntmps10
  go_upto_region 2 with (first | ((with_reducible refine gate_store (t := 29) (p := 3) rfl ?_); refine wpList_store_row rfl 29 (.tmp 3) (.tmp 14) rfl _ (FC (gbase f)) rfl rfl 29 _ HLK.out (by kernel_rfl) rfl (fc_one _) ?_; refine (congrArg (fun W => wpList Tryd.prog _ _ _ _ W) HW.out).mpr ?_; clear HW HLK))
  clear HN c0 c1 c2 c3 c4 c5 c6 c7 c8 c9 c10 c11 c12 c13 c14 c15 c16 c17 c18
  obtain ⟨c0, c1, c2, c3, c4, c5, c6, c7, c8, c9, c10, c11, c12, c13, c14, c15, c16, c17, c18⟩ := HT.out.fr.cells
  obtain ⟨e0, e1, e2, e3, e4, e5, e6, e7, e8, e9, e10, e11, e12, e13, e14, e15, e16, e17, e18⟩ := HT.out.fg.cells
  have hfr := HT.out.fg.frees
  generalize w.heap.size + 1 = G at *
  generalize hEq : w.heap.size = E at *
  have HSZ := Aside0.mk hEq
  clear hEq
  go_upto_region 10 with (fail)
  have n0_ := Aside0.mk ((HT.out.put 13 (.int .u8 f.blk) ({ gbase f with blk := f.blk }) rfl))
  clear HT hfr c0 c1 c2 c3 c4 c5 c6 c7 c8 c9 c10 c11 c12 c13 c14 c15 c16 c17 c18 e0 e1 e2 e3 e4 e5 e6 e7 e8 e9 e10 e11 e12 e13 e14 e15 e16 e17 e18
  have HT := n0_
  clear n0_
  obtain ⟨c0, c1, c2, c3, c4, c5, c6, c7, c8, c9, c10, c11, c12, c13, c14, c15, c16, c17, c18⟩ := HT.out.fr.cells
  obtain ⟨e0, e1, e2, e3, e4, e5, e6, e7, e8, e9, e10, e11, e12, e13, e14, e15, e16, e17, e18⟩ := HT.out.fg.cells
  have hfr := HT.out.fg.frees
  go_upto_region 11 with (fail)
  have n0_ := Aside0.mk (((HT.out.put 14 (.int .u16 f.vinc) ({ gbase f with blk := f.blk, vinc := f.vinc }) rfl).put 15 (.int .u32 f.vseq) ({ gbase f with blk := f.blk, vinc := f.vinc, vseq := f.vseq }) rfl))
  clear HT hfr c0 c1 c2 c3 c4 c5 c6 c7 c8 c9 c10 c11 c12 c13 c14 c15 c16 c17 c18 e0 e1 e2 e3 e4 e5 e6 e7 e8 e9 e10 e11 e12 e13 e14 e15 e16 e17 e18
  have HT := n0_
  clear n0_
  obtain ⟨c0, c1, c2, c3, c4, c5, c6, c7, c8, c9, c10, c11, c12, c13, c14, c15, c16, c17, c18⟩ := HT.out.fr.cells
  obtain ⟨e0, e1, e2, e3, e4, e5, e6, e7, e8, e9, e10, e11, e12, e13, e14, e15, e16, e17, e18⟩ := HT.out.fg.cells
  have hfr := HT.out.fg.frees
  go_upto_region 12 with (fail)
  have n0_ := Aside0.mk ((HT.out.put 16 (.int .u8 f.part) ({ gbase f with blk := f.blk, vinc := f.vinc, vseq := f.vseq, part := f.part }) rfl))
  clear HT hfr c0 c1 c2 c3 c4 c5 c6 c7 c8 c9 c10 c11 c12 c13 c14 c15 c16 c17 c18 e0 e1 e2 e3 e4 e5 e6 e7 e8 e9 e10 e11 e12 e13 e14 e15 e16 e17 e18
  have HT := n0_
  clear n0_
  obtain ⟨c0, c1, c2, c3, c4, c5, c6, c7, c8, c9, c10, c11, c12, c13, c14, c15, c16, c17, c18⟩ := HT.out.fr.cells
  obtain ⟨e0, e1, e2, e3, e4, e5, e6, e7, e8, e9, e10, e11, e12, e13, e14, e15, e16, e17, e18⟩ := HT.out.fg.cells
  have hfr := HT.out.fg.frees
  go_upto_region 13 with (fail)
  have n0_ := Aside0.mk ((HT.out.put 17 (.int .u8 f.parts) ({ gbase f with blk := f.blk, vinc := f.vinc, vseq := f.vseq, part := f.part, parts := f.parts }) rfl))
  clear HT hfr c0 c1 c2 c3 c4 c5 c6 c7 c8 c9 c10 c11 c12 c13 c14 c15 c16 c17 c18 e0 e1 e2 e3 e4 e5 e6 e7 e8 e9 e10 e11 e12 e13 e14 e15 e16 e17 e18
  have HT := n0_
  clear n0_
  obtain ⟨c0, c1, c2, c3, c4, c5, c6, c7, c8, c9, c10, c11, c12, c13, c14, c15, c16, c17, c18⟩ := HT.out.fr.cells
  obtain ⟨e0, e1, e2, e3, e4, e5, e6, e7, e8, e9, e10, e11, e12, e13, e14, e15, e16, e17, e18⟩ := HT.out.fg.cells
  have hfr := HT.out.fg.frees
  go_upto_region 14 with (fail)
  have n0_ := Aside0.mk ((HT.out.put 18 (.string f.bytes) (g4 f) rfl))
  clear HT hfr c0 c1 c2 c3 c4 c5 c6 c7 c8 c9 c10 c11 c12 c13 c14 c15 c16 c17 c18 e0 e1 e2 e3 e4 e5 e6 e7 e8 e9 e10 e11 e12 e13 e14 e15 e16 e17 e18
  have HT := n0_
  clear n0_
  obtain ⟨c0, c1, c2, c3, c4, c5, c6, c7, c8, c9, c10, c11, c12, c13, c14, c15, c16, c17, c18⟩ := HT.out.fr.cells
  obtain ⟨e0, e1, e2, e3, e4, e5, e6, e7, e8, e9, e10, e11, e12, e13, e14, e15, e16, e17, e18⟩ := HT.out.fg.cells
  have hfr := HT.out.fg.frees
  by_cases h0 : 15 < f.blk
  · have f1 : decide (15 < f.blk) = true := decide_eq_true h0
    clear h0
    go_wp2
    all_goals go_ret
    all_goals exact ⟨ret_b HV.out.symm, HT.out.below⟩
  · have f1 : decide (15 < f.blk) = false := decide_eq_false h0
    have H0 := Aside0.mk h0
    clear h0
    by_cases h1 : f.parts < 1
    · have f2 : decide (f.parts < 1) = true := decide_eq_true h1
      clear h1
      go_wp2
      all_goals go_ret
      all_goals exact ⟨ret_b HV.out.symm, HT.out.below⟩
    · have f2 : decide (f.parts < 1) = false := decide_eq_false h1
      have H1 := Aside0.mk h1
      clear h1
      by_cases h2 : 4 < f.parts
      · have f3 : decide (4 < f.parts) = true := decide_eq_true h2
        clear h2
        go_wp2
        all_goals go_ret
        all_goals exact ⟨ret_b HV.out.symm, HT.out.below⟩
      · have f3 : decide (4 < f.parts) = false := decide_eq_false h2
        have H2 := Aside0.mk h2
        clear h2
        by_cases h3 : f.parts ≤ f.part
        · have f4 : decide (f.parts ≤ f.part) = true := decide_eq_true h3
          clear h3
          go_wp2
          all_goals go_ret
          all_goals exact ⟨ret_b HV.out.symm, HT.out.below⟩
        · have f4 : decide (f.parts ≤ f.part) = false := decide_eq_false h3
          have H3 := Aside0.mk h3
          clear h3
          by_cases h4 : (f.bytes.size : Int) < 1
          · have f5 : decide ((f.bytes.size : Int) < 1) = true := decide_eq_true h4
            have f7 : decide (f.bytes.size < 1) = true := decide_eq_true (by omega)
            clear h4
            go_wp2
            all_goals go_ret
            all_goals exact ⟨ret_b HV.out.symm, HT.out.below⟩
          · have f5 : decide ((f.bytes.size : Int) < 1) = false := decide_eq_false h4
            have H4 := Aside0.mk h4
            have f7 : decide (f.bytes.size < 1) = false := decide_eq_false (by omega)
            clear h4
            by_cases h5 : 16 < (f.bytes.size : Int)
            · have f6 : decide (16 < (f.bytes.size : Int)) = true := decide_eq_true h5
              have f8 : decide (16 < f.bytes.size) = true := decide_eq_true (by omega)
              clear h5
              go_wp2
              all_goals go_ret
              all_goals exact ⟨ret_b HV.out.symm, HT.out.below⟩
            · have f6 : decide (16 < (f.bytes.size : Int)) = false := decide_eq_false h5
              have H5 := Aside0.mk h5
              clear h5
              exact absurd (show ok4 f from by have a0 := H0.out; have a1 := H1.out; have a2 := H2.out; have a3 := H3.out; have a4 := H4.out; have a5 := H5.out; unfold ok4; omega) HO.out
theorem rright_f (w : World) (f : Fr) (hr : Rng f) : Calls Tryd.prog 10 #[.agg (FC f)] w fun e w' => e = .returned (.bool (right f)) ∧ Below w.heap.size w w' := by
  by_cases hk : 1 ≤ f.kind ∧ f.kind ≤ 5
  · obtain h | h | h | h | h : f.kind = 1 ∨ f.kind = 2 ∨ f.kind = 3 ∨ f.kind = 4 ∨ f.kind = 5 := by omega
    · exact rr_k1 w f hr h
    · exact rr_k2 w f hr h
    · exact rr_k3 w f hr h
    · by_cases ho : ok4 f
      · exact rr_k4 w f hr h ho
      · exact rr_bad4 w f hr h ho
    · exact rr_k5 w f hr h
  · have e : right f = false := by
      unfold right kindok
      rw [decide_eq_false hk, Bool.false_and, Bool.false_and, Bool.false_and]
    rw [e]
    exact rr_no w f hr hk
end Go.Proofs.YtkcaifpmceoflaaDoor.Frm

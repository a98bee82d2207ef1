/- How an argument that is a frame is read as a record; the table of powers of ten that the rows list, read in memory; a world that meets the rows' condition. -/
import Derived.Test.YtkcaifpmceoflaaDoorRows
import Derived.Test.YtkcaifpmceoflaaDoorCoded
import Derived.LaidMore
import Derived.Stop.Joined
import Derived.ProofKit
import Derived.OpenShut
import Derived.Deep.Slices
import Derived.ChangeSame
import Derived.SizedLaws
import Derived.Lib.LaidTab
namespace Go.Proofs.YtkcaifpmceoflaaDoor.Frm
open Go.ChangeShapes Go.WideShapes Go.ChangeAt Go.RowKit
set_option linter.unusedVariables false
noncomputable abbrev LL : List (String × DataW Unit) := Rows.frameCutsRow.laid
theorem door_met (os : Os) (args : Array Value) : laidMetH Tryd.prog LL ((World.doorLaid Tryd.prog 400 os).forCall (fun _ _ => 0) ⟨#[], args, []⟩).memory :=
  laidMetH_of_parts3 (fuel := 8) (laidMet_of_run' 8 (by kernel_rfl) (by kernel_rfl)) (by kernel_rfl) (by kernel_rfl)
theorem laid_tabs {W : World} (h : laidMetH Tryd.prog LL W) : Own.Tabs W := by
  rw [MakeChecks.laidMetH_plain _ _ _ (by kernel_rfl)] at h
  obtain ⟨ps, ⟨g0, t0, cs0, fuel0, p0, q0, _, _, _, _, ⟨g1, t1, cs1, fuel1, p1, q1, _, _, _, _, ⟨g', t', cs, fuel, p, q, hg', ht', hvar, hd, _, _⟩, _⟩, _⟩, _⟩ := h
  have hg : Tryd.prog.globalNamed "internal/strconv.uint64pow10" = some 0 := by kernel_rfl
  have hty : (Tryd.prog.globals[(0 : Nat)]?).map (·.type) = some 108 := by kernel_rfl
  obtain rfl := Option.some.inj (hg.symm.trans hg')
  obtain rfl := Option.some.inj (hty.symm.trans ht')
  have hc := Lib.cells_of_tab (k := .u64) (zs := Lib.pow10Tab) Tryd.underlying108 Tryd.underlying63 (by kernel_rfl) (by kernel_rfl) hd
  unfold Own.Tabs Lib.TabIs
  rw [hvar, ← hc]
theorem wf_u8 {x : Int} (h : (Lit.int .u8 x).wf = true) : 0 ≤ x ∧ x < 256 := by
  simp [Lit.wf] at h
  have e : IntKind.u8.min = 0 := by decide
  have e2 : IntKind.u8.max = 255 := by decide
  rw [e, e2] at h
  omega
theorem wf_u16 {x : Int} (h : (Lit.int .u16 x).wf = true) : 0 ≤ x ∧ x < 65536 := by
  simp [Lit.wf] at h
  have e : IntKind.u16.min = 0 := by decide
  have e2 : IntKind.u16.max = 65535 := by decide
  rw [e, e2] at h
  omega
theorem wf_u32 {x : Int} (h : (Lit.int .u32 x).wf = true) : 0 ≤ x ∧ x < 4294967296 := by
  simp [Lit.wf] at h
  have e : IntKind.u32.min = 0 := by decide
  have e2 : IntKind.u32.max = 4294967295 := by decide
  rw [e, e2] at h
  omega
theorem list_2 {α : Type _} : ∀ {l : List α}, l.length = 2 → ∃ a0 a1, l = [a0, a1]
  | [a0, a1], _ => ⟨a0, a1, rfl⟩
theorem list_3 {α : Type _} : ∀ {l : List α}, l.length = 3 → ∃ a0 a1 a2, l = [a0, a1, a2]
  | [a0, a1, a2], _ => ⟨a0, a1, a2, rfl⟩
theorem list_14 {α : Type _} : ∀ {l : List α}, l.length = 14 → ∃ a0 a1 a2 a3 a4 a5 a6 a7 a8 a9 a10 a11 a12 a13, l = [a0, a1, a2, a3, a4, a5, a6, a7, a8, a9, a10, a11, a12, a13]
  | [a0, a1, a2, a3, a4, a5, a6, a7, a8, a9, a10, a11, a12, a13], _ => ⟨a0, a1, a2, a3, a4, a5, a6, a7, a8, a9, a10, a11, a12, a13, rfl⟩
theorem list_19 {α : Type _} : ∀ {l : List α}, l.length = 19 → ∃ a0 a1 a2 a3 a4 a5 a6 a7 a8 a9 a10 a11 a12 a13 a14 a15 a16 a17 a18, l = [a0, a1, a2, a3, a4, a5, a6, a7, a8, a9, a10, a11, a12, a13, a14, a15, a16, a17, a18]
  | [a0, a1, a2, a3, a4, a5, a6, a7, a8, a9, a10, a11, a12, a13, a14, a15, a16, a17, a18], _ => ⟨a0, a1, a2, a3, a4, a5, a6, a7, a8, a9, a10, a11, a12, a13, a14, a15, a16, a17, a18, rfl⟩
theorem el24 {H : Type} {enc : TypeId × Value → H} {w : World} {base : Nat} {spare : Nat → Bool} {held : Bool} (n : Nat) (cs : List Value) (y : DataW H × List MemPlace) (h : DataW.trod enc Tryd.prog w base spare held n 24 cs = some y) (hl : cs.length = Tryd.prog.cellsOf 24) : ∃ x0 x1 x2 : Int, cs = [.int .u16 x0, .int .u8 x1, .int .u16 x2] ∧ (Lit.int .u16 x0).wf = true ∧ (Lit.int .u8 x1).wf = true ∧ (Lit.int .u16 x2).wf = true := by
  obtain ⟨xs, m, _, _, _, hlen, hf⟩ := DataW.trod_struct Tryd.underlying24 h
  have hcs : cs.length = 3 := hl.trans (by kernel_rfl)
  obtain ⟨c0, c1, c2, rfl⟩ := list_3 hcs
  obtain ⟨y0, y1, y2, rfl⟩ := list_3 hlen
  have q0 : Tryd.prog.cellsOf 22 = 1 := by kernel_rfl
  have h0 : DataW.trod enc Tryd.prog w base spare held m 22 (List.take (Tryd.prog.cellsOf 22) (List.drop 0 [c0, c1, c2])) = some y0 := hf 0 _ rfl
  rw [q0] at h0
  replace h0 : DataW.trod enc Tryd.prog w base spare held m 22 [c0] = some y0 := h0
  obtain ⟨x0, e0, _, w0⟩ := DataW.trod_int Tryd.underlying22 h0
  have B0 : c0 = .int .u16 x0 := by injection e0
  have q1 : Tryd.prog.cellsOf 5 = 1 := by kernel_rfl
  have h1 : DataW.trod enc Tryd.prog w base spare held m 5 (List.take (Tryd.prog.cellsOf 5) (List.drop 1 [c0, c1, c2])) = some y1 := hf 1 _ rfl
  rw [q1] at h1
  replace h1 : DataW.trod enc Tryd.prog w base spare held m 5 [c1] = some y1 := h1
  obtain ⟨x1, e1, _, w1⟩ := DataW.trod_int Tryd.underlying5 h1
  have B1 : c1 = .int .u8 x1 := by injection e1
  have q2 : Tryd.prog.cellsOf 22 = 1 := by kernel_rfl
  have h2 : DataW.trod enc Tryd.prog w base spare held m 22 (List.take (Tryd.prog.cellsOf 22) (List.drop 2 [c0, c1, c2])) = some y2 := hf 2 _ rfl
  rw [q2] at h2
  replace h2 : DataW.trod enc Tryd.prog w base spare held m 22 [c2] = some y2 := h2
  obtain ⟨x2, e2, _, w2⟩ := DataW.trod_int Tryd.underlying22 h2
  have B2 : c2 = .int .u16 x2 := by injection e2
  subst B0 B1 B2
  exact ⟨x0, x1, x2, rfl, w0, w1, w2⟩
theorem el27 {H : Type} {enc : TypeId × Value → H} {w : World} {base : Nat} {spare : Nat → Bool} {held : Bool} (n : Nat) (cs : List Value) (y : DataW H × List MemPlace) (h : DataW.trod enc Tryd.prog w base spare held n 27 cs = some y) (hl : cs.length = Tryd.prog.cellsOf 27) : ∃ x0 x1 : Int, cs = [.int .u16 x0, .int .u32 x1] ∧ (Lit.int .u16 x0).wf = true ∧ (Lit.int .u32 x1).wf = true := by
  obtain ⟨xs, m, _, _, _, hlen, hf⟩ := DataW.trod_struct Tryd.underlying27 h
  have hcs : cs.length = 2 := hl.trans (by kernel_rfl)
  obtain ⟨c0, c1, rfl⟩ := list_2 hcs
  obtain ⟨y0, y1, rfl⟩ := list_2 hlen
  have q0 : Tryd.prog.cellsOf 22 = 1 := by kernel_rfl
  have h0 : DataW.trod enc Tryd.prog w base spare held m 22 (List.take (Tryd.prog.cellsOf 22) (List.drop 0 [c0, c1])) = some y0 := hf 0 _ rfl
  rw [q0] at h0
  replace h0 : DataW.trod enc Tryd.prog w base spare held m 22 [c0] = some y0 := h0
  obtain ⟨x0, e0, _, w0⟩ := DataW.trod_int Tryd.underlying22 h0
  have B0 : c0 = .int .u16 x0 := by injection e0
  have q1 : Tryd.prog.cellsOf 25 = 1 := by kernel_rfl
  have h1 : DataW.trod enc Tryd.prog w base spare held m 25 (List.take (Tryd.prog.cellsOf 25) (List.drop 1 [c0, c1])) = some y1 := hf 1 _ rfl
  rw [q1] at h1
  replace h1 : DataW.trod enc Tryd.prog w base spare held m 25 [c1] = some y1 := h1
  obtain ⟨x1, e1, _, w1⟩ := DataW.trod_int Tryd.underlying25 h1
  have B1 : c1 = .int .u32 x1 := by injection e1
  subst B0 B1
  exact ⟨x0, x1, rfl, w0, w1⟩
set_option maxHeartbeats 1000000 in
theorem el29 {H : Type} {enc : TypeId × Value → H} {w : World} {base : Nat} {spare : Nat → Bool} {held : Bool} (n : Nat) (cs : List Value) (y : DataW H × List MemPlace) (h : DataW.trod enc Tryd.prog w base spare held n 29 cs = some y) (hl : cs.length = Tryd.prog.cellsOf 29) : ∃ f : Fr, cs = (FC f).toList ∧ Rng f := by
  obtain ⟨xs, m, _, _, _, hlen, hf⟩ := DataW.trod_struct Tryd.underlying29 h
  have hcs : cs.length = 19 := hl.trans (by kernel_rfl)
  obtain ⟨c0, c1, c2, c3, c4, c5, c6, c7, c8, c9, c10, c11, c12, c13, c14, c15, c16, c17, c18, rfl⟩ := list_19 hcs
  obtain ⟨y0, y1, y2, y3, y4, y5, y6, y7, y8, y9, y10, y11, y12, y13, rfl⟩ := list_14 hlen
  have q0 : Tryd.prog.cellsOf 3 = 1 := by kernel_rfl
  have h0 : DataW.trod enc Tryd.prog w base spare held m 3 (List.take (Tryd.prog.cellsOf 3) (List.drop 0 [c0, c1, c2, c3, c4, c5, c6, c7, c8, c9, c10, c11, c12, c13, c14, c15, c16, c17, c18])) = some y0 := hf 0 _ rfl
  rw [q0] at h0
  replace h0 : DataW.trod enc Tryd.prog w base spare held m 3 [c0] = some y0 := h0
  obtain ⟨kind, e0, _, w_kind⟩ := DataW.trod_int Tryd.underlying3 h0
  have B0 : c0 = .int .i64 kind := by injection e0
  have q1 : Tryd.prog.cellsOf 5 = 1 := by kernel_rfl
  have h1 : DataW.trod enc Tryd.prog w base spare held m 5 (List.take (Tryd.prog.cellsOf 5) (List.drop 1 [c0, c1, c2, c3, c4, c5, c6, c7, c8, c9, c10, c11, c12, c13, c14, c15, c16, c17, c18])) = some y1 := hf 1 _ rfl
  rw [q1] at h1
  replace h1 : DataW.trod enc Tryd.prog w base spare held m 5 [c1] = some y1 := h1
  obtain ⟨src, e1, _, w_src⟩ := DataW.trod_int Tryd.underlying5 h1
  have B1 : c1 = .int .u8 src := by injection e1
  have q2 : Tryd.prog.cellsOf 5 = 1 := by kernel_rfl
  have h2 : DataW.trod enc Tryd.prog w base spare held m 5 (List.take (Tryd.prog.cellsOf 5) (List.drop 2 [c0, c1, c2, c3, c4, c5, c6, c7, c8, c9, c10, c11, c12, c13, c14, c15, c16, c17, c18])) = some y2 := hf 2 _ rfl
  rw [q2] at h2
  replace h2 : DataW.trod enc Tryd.prog w base spare held m 5 [c2] = some y2 := h2
  obtain ⟨dst, e2, _, w_dst⟩ := DataW.trod_int Tryd.underlying5 h2
  have B2 : c2 = .int .u8 dst := by injection e2
  have q3 : Tryd.prog.cellsOf 22 = 1 := by kernel_rfl
  have h3 : DataW.trod enc Tryd.prog w base spare held m 22 (List.take (Tryd.prog.cellsOf 22) (List.drop 3 [c0, c1, c2, c3, c4, c5, c6, c7, c8, c9, c10, c11, c12, c13, c14, c15, c16, c17, c18])) = some y3 := hf 3 _ rfl
  rw [q3] at h3
  replace h3 : DataW.trod enc Tryd.prog w base spare held m 22 [c3] = some y3 := h3
  obtain ⟨sinc, e3, _, w_sinc⟩ := DataW.trod_int Tryd.underlying22 h3
  have B3 : c3 = .int .u16 sinc := by injection e3
  have q4 : Tryd.prog.cellsOf 22 = 1 := by kernel_rfl
  have h4 : DataW.trod enc Tryd.prog w base spare held m 22 (List.take (Tryd.prog.cellsOf 22) (List.drop 4 [c0, c1, c2, c3, c4, c5, c6, c7, c8, c9, c10, c11, c12, c13, c14, c15, c16, c17, c18])) = some y4 := hf 4 _ rfl
  rw [q4] at h4
  replace h4 : DataW.trod enc Tryd.prog w base spare held m 22 [c4] = some y4 := h4
  obtain ⟨dinc, e4, _, w_dinc⟩ := DataW.trod_int Tryd.underlying22 h4
  have B4 : c4 = .int .u16 dinc := by injection e4
  have q5 : Tryd.prog.cellsOf 24 = 3 := by kernel_rfl
  have h5 : DataW.trod enc Tryd.prog w base spare held m 24 (List.take (Tryd.prog.cellsOf 24) (List.drop 5 [c0, c1, c2, c3, c4, c5, c6, c7, c8, c9, c10, c11, c12, c13, c14, c15, c16, c17, c18])) = some y5 := hf 5 _ rfl
  rw [q5] at h5
  replace h5 : DataW.trod enc Tryd.prog w base spare held m 24 [c5, c6, c7] = some y5 := h5
  obtain ⟨ec, ea, ei, e5, w_ec, w_ea, w_ei⟩ := el24 (w := w) _ _ _ h5 (by rw [q5]; rfl)
  simp only [List.cons.injEq, and_true] at e5
  obtain ⟨B5, B6, B7⟩ := e5
  have q6 : Tryd.prog.cellsOf 22 = 1 := by kernel_rfl
  have h6 : DataW.trod enc Tryd.prog w base spare held m 22 (List.take (Tryd.prog.cellsOf 22) (List.drop 8 [c0, c1, c2, c3, c4, c5, c6, c7, c8, c9, c10, c11, c12, c13, c14, c15, c16, c17, c18])) = some y6 := hf 6 _ rfl
  rw [q6] at h6
  replace h6 : DataW.trod enc Tryd.prog w base spare held m 22 [c8] = some y6 := h6
  obtain ⟨hop, e6, _, w_hop⟩ := DataW.trod_int Tryd.underlying22 h6
  have B8 : c8 = .int .u16 hop := by injection e6
  have q7 : Tryd.prog.cellsOf 24 = 3 := by kernel_rfl
  have h7 : DataW.trod enc Tryd.prog w base spare held m 24 (List.take (Tryd.prog.cellsOf 24) (List.drop 9 [c0, c1, c2, c3, c4, c5, c6, c7, c8, c9, c10, c11, c12, c13, c14, c15, c16, c17, c18])) = some y7 := hf 7 _ rfl
  rw [q7] at h7
  replace h7 : DataW.trod enc Tryd.prog w base spare held m 24 [c9, c10, c11] = some y7 := h7
  obtain ⟨hc, ha, hi, e7, w_hc, w_ha, w_hi⟩ := el24 (w := w) _ _ _ h7 (by rw [q7]; rfl)
  simp only [List.cons.injEq, and_true] at e7
  obtain ⟨B9, B10, B11⟩ := e7
  have q8 : Tryd.prog.cellsOf 4 = 1 := by kernel_rfl
  have h8 : DataW.trod enc Tryd.prog w base spare held m 4 (List.take (Tryd.prog.cellsOf 4) (List.drop 12 [c0, c1, c2, c3, c4, c5, c6, c7, c8, c9, c10, c11, c12, c13, c14, c15, c16, c17, c18])) = some y8 := hf 8 _ rfl
  rw [q8] at h8
  replace h8 : DataW.trod enc Tryd.prog w base spare held m 4 [c12] = some y8 := h8
  obtain ⟨wants, e8, _⟩ := DataW.trod_bool Tryd.underlying4 h8
  have B12 : c12 = .bool wants := by injection e8
  have q9 : Tryd.prog.cellsOf 5 = 1 := by kernel_rfl
  have h9 : DataW.trod enc Tryd.prog w base spare held m 5 (List.take (Tryd.prog.cellsOf 5) (List.drop 13 [c0, c1, c2, c3, c4, c5, c6, c7, c8, c9, c10, c11, c12, c13, c14, c15, c16, c17, c18])) = some y9 := hf 9 _ rfl
  rw [q9] at h9
  replace h9 : DataW.trod enc Tryd.prog w base spare held m 5 [c13] = some y9 := h9
  obtain ⟨blk, e9, _, w_blk⟩ := DataW.trod_int Tryd.underlying5 h9
  have B13 : c13 = .int .u8 blk := by injection e9
  have q10 : Tryd.prog.cellsOf 27 = 2 := by kernel_rfl
  have h10 : DataW.trod enc Tryd.prog w base spare held m 27 (List.take (Tryd.prog.cellsOf 27) (List.drop 14 [c0, c1, c2, c3, c4, c5, c6, c7, c8, c9, c10, c11, c12, c13, c14, c15, c16, c17, c18])) = some y10 := hf 10 _ rfl
  rw [q10] at h10
  replace h10 : DataW.trod enc Tryd.prog w base spare held m 27 [c14, c15] = some y10 := h10
  obtain ⟨vinc, vseq, e10, w_vinc, w_vseq⟩ := el27 (w := w) _ _ _ h10 (by rw [q10]; rfl)
  simp only [List.cons.injEq, and_true] at e10
  obtain ⟨B14, B15⟩ := e10
  have q11 : Tryd.prog.cellsOf 5 = 1 := by kernel_rfl
  have h11 : DataW.trod enc Tryd.prog w base spare held m 5 (List.take (Tryd.prog.cellsOf 5) (List.drop 16 [c0, c1, c2, c3, c4, c5, c6, c7, c8, c9, c10, c11, c12, c13, c14, c15, c16, c17, c18])) = some y11 := hf 11 _ rfl
  rw [q11] at h11
  replace h11 : DataW.trod enc Tryd.prog w base spare held m 5 [c16] = some y11 := h11
  obtain ⟨part, e11, _, w_part⟩ := DataW.trod_int Tryd.underlying5 h11
  have B16 : c16 = .int .u8 part := by injection e11
  have q12 : Tryd.prog.cellsOf 5 = 1 := by kernel_rfl
  have h12 : DataW.trod enc Tryd.prog w base spare held m 5 (List.take (Tryd.prog.cellsOf 5) (List.drop 17 [c0, c1, c2, c3, c4, c5, c6, c7, c8, c9, c10, c11, c12, c13, c14, c15, c16, c17, c18])) = some y12 := hf 12 _ rfl
  rw [q12] at h12
  replace h12 : DataW.trod enc Tryd.prog w base spare held m 5 [c17] = some y12 := h12
  obtain ⟨parts, e12, _, w_parts⟩ := DataW.trod_int Tryd.underlying5 h12
  have B17 : c17 = .int .u8 parts := by injection e12
  have q13 : Tryd.prog.cellsOf 9 = 1 := by kernel_rfl
  have h13 : DataW.trod enc Tryd.prog w base spare held m 9 (List.take (Tryd.prog.cellsOf 9) (List.drop 18 [c0, c1, c2, c3, c4, c5, c6, c7, c8, c9, c10, c11, c12, c13, c14, c15, c16, c17, c18])) = some y13 := hf 13 _ rfl
  rw [q13] at h13
  replace h13 : DataW.trod enc Tryd.prog w base spare held m 9 [c18] = some y13 := h13
  obtain ⟨bytes, e13, _, _⟩ := DataW.trod_string Tryd.underlying9 h13
  have B18 : c18 = .string bytes := by injection e13
  subst B0 B1 B2 B3 B4 B5 B6 B7 B8 B9 B10 B11 B12 B13 B14 B15 B16 B17 B18
  exact ⟨⟨kind, src, dst, sinc, dinc, ec, ea, ei, hop, hc, ha, hi, wants, blk, vinc, vseq, part, parts, bytes⟩, rfl, ⟨wf_u8 w_src, wf_u8 w_dst, wf_u16 w_sinc, wf_u16 w_dinc, wf_u16 w_ec, wf_u8 w_ea, wf_u16 w_ei, wf_u16 w_hop, wf_u16 w_hc, wf_u8 w_ha, wf_u16 w_hi, wf_u8 w_blk, wf_u16 w_vinc, wf_u32 w_vseq, wf_u8 w_part, wf_u8 w_parts⟩⟩
end Go.Proofs.YtkcaifpmceoflaaDoor.Frm

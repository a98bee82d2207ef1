/- The walks of frame.Size and frame.Encode. Conditions: those that each statement names. -/
import Derived.Test.YtkcaifpmceoflaaDoorFrame0
import Derived.Test.YtkcaifpmceoflaaDoorOwnx5
import Derived.Deep.MidRow
namespace Go.Proofs.YtkcaifpmceoflaaDoor.Frm
open Go.RowKit Go.Proofs.YtkcaifpmceoflaaDoorW.PrintWords Go.Proofs.YtkcaifpmceoflaaDoorW.PrintLast Go.Proofs.YtkcaifpmceoflaaDoorW.PrintMore
attribute [local go_sem] max2_int min2_int max_two min_two max_three min_three max_four min_four
set_option linter.unusedVariables false
set_option linter.unusedSimpArgs false
theorem right_g (w : World) (f : Fr) (b : Bool) (h : right f = b) : Calls Tryd.prog 11 #[.agg (FC f)] w fun e w' => e = .returned (.bool b) ∧ Below w.heap.size w w' := by
  subst h
  exact right_f w f
set_option maxHeartbeats 1000000 in
theorem size_no (w : World) (f : Fr) (h : right f = false) :
    Calls Tryd.prog 14 #[.agg (FC f)] w fun e w' => e = .returned (.int .i64 0) ∧ Below w.heap.size w w' := by
  have HR := Aside0.mk fun W : World => right_g W f false h
  clear h
  have HN := Aside0.mk (FAt.new w f)
  have HB := Aside0.mk ((Below.refl w.heap.size w).alloc (Nat.le_refl _) (.cells (FC f) 29))
  go_enter Tryd.func14, Tryd.ntmps14
  go_upto_region 1 with (fail)
  generalize w.alloc (.cells (FC f) 29) = W0 at *
  generalize hEq : w.heap.size = E at *
  have HSZ := Aside0.mk hEq
  clear hEq
  have HE := Aside0.mk HN.out.lt
  go_wp2_with (first | ((with_reducible refine gate_dst (N := 5) rfl ?_); refine wpList_load_row rfl 29 (.tmp 1) rfl E rfl 29 (FC f) (0, 0) _ HN.out Tryd.underlying29 rfl (by kernel_rfl) ?_) | (go_at_call 11; (with_reducible refine (HR.out _).mono ?_); rintro e w1 ⟨rfl, hb⟩; have n0_ := Aside0.mk (HN.out.on hb HE.out); have n1_ := Aside0.mk (HB.out.trans (hb.mono (Nat.le_of_lt HE.out))); have n2_ := Aside0.mk (Nat.lt_of_lt_of_le HE.out hb.size); clear HN HB HE hb; have HN := n0_; have HB := n1_; have HE := n2_; clear n0_ n1_ n2_))
  go_ret
  exact ⟨rfl, by rw [HSZ.out]; first | exact HB.out | exact HB.out.alloc (Nat.le_of_lt HE.out) _⟩
set_option maxHeartbeats 1000000 in
theorem size_yes (w : World) (f : Fr) (h : right f = true) (n : ByteArray) (t o : Bool) (a b : Int) (hs : Own.frame_shapes.f f.kind = some (n, t, a, b, o)) (ha : 0 ≤ a ∧ a ≤ 1000) (hy : f.bytes.size ≤ 1000000) :
    Calls Tryd.prog 14 #[.agg (FC f)] w fun e w' => e = .returned (.int .i64 (a + mx ((f.bytes.size : Int) - 1) 0)) ∧ Below w.heap.size w w' := by
  have HR := Aside0.mk fun W : World => right_g W f true h
  have HSH := Aside0.mk fun W : World => shapes_f f.kind W _ _ _ _ _ hs
  obtain ⟨m, hm⟩ : ∃ m, (if (f.bytes.size : Int) - 1 < 0 then (0 : Int) else (f.bytes.size : Int) - 1) = m := ⟨_, rfl⟩
  have hm2 : mx ((f.bytes.size : Int) - 1) 0 = m := hm
  have hmr : 0 ≤ m ∧ m ≤ 1000000 := by rw [← hm]; split <;> omega
  rw [hm2]
  have a1 := ha.1
  have a2 := ha.2
  have m1 := hmr.1
  have m2 := hmr.2
  have y1 : (f.bytes.size : Int) ≤ 1000000 := by omega
  clear h hs hm2 ha hmr hy
  have HN := Aside0.mk (FAt.new w f)
  have HB := Aside0.mk ((Below.refl w.heap.size w).alloc (Nat.le_refl _) (.cells (FC f) 29))
  go_enter Tryd.func14, Tryd.ntmps14
  go_upto_region 1 with (fail)
  generalize w.alloc (.cells (FC f) 29) = W0 at *
  generalize hEq : w.heap.size = E at *
  have HSZ := Aside0.mk hEq
  clear hEq
  have HE := Aside0.mk HN.out.lt
  go_wp2_with (first | ((with_reducible refine gate_dst (N := 5) rfl ?_); refine wpList_load_row rfl 29 (.tmp 1) rfl E rfl 29 (FC f) (0, 0) _ HN.out Tryd.underlying29 rfl (by kernel_rfl) ?_) | (go_at_call 11; (with_reducible refine (HR.out _).mono ?_); rintro e w1 ⟨rfl, hb⟩; have n0_ := Aside0.mk (HN.out.on hb HE.out); have n1_ := Aside0.mk (HB.out.trans (hb.mono (Nat.le_of_lt HE.out))); have n2_ := Aside0.mk (Nat.lt_of_lt_of_le HE.out hb.size); clear HN HB HE hb; have HN := n0_; have HB := n1_; have HE := n2_; clear n0_ n1_ n2_; obtain ⟨c0, c1, c2, c3, c4, c5, c6, c7, c8, c9, c10, c11, c12, c13, c14, c15, c16, c17, c18⟩ := HN.out.cells) | (go_at_call 29; (with_reducible refine (HSH.out _).mono ?_); rintro e w2 ⟨rfl, hb⟩; have n0_ := Aside0.mk (HN.out.on hb HE.out); have n1_ := Aside0.mk (HB.out.trans (hb.mono (Nat.le_of_lt HE.out))); have n2_ := Aside0.mk (Nat.lt_of_lt_of_le HE.out hb.size); clear HN HB HE hb c0 c1 c2 c3 c4 c5 c6 c7 c8 c9 c10 c11 c12 c13 c14 c15 c16 c17 c18; have HN := n0_; have HB := n1_; have HE := n2_; clear n0_ n1_ n2_; obtain ⟨c0, c1, c2, c3, c4, c5, c6, c7, c8, c9, c10, c11, c12, c13, c14, c15, c16, c17, c18⟩ := HN.out.cellsA))
  go_ret
  exact ⟨rfl, by rw [HSZ.out]; first | exact HB.out | exact HB.out.alloc (Nat.le_of_lt HE.out) _⟩
theorem pen_new2 (w : World) : Calls Tryd.prog 21 #[] w fun e w' => ∃ B, e = .returned (.pointer (some ⟨B, 0, none⟩)) ∧ w.heap.size ≤ B ∧ B < w'.heap.size ∧ Pen w' B B [] ∧ Below w.heap.size w w' := by
  refine (pen_new w).mono ?_
  rintro e w' ⟨h1, h2, h3⟩
  obtain ⟨v, hv, _⟩ := h2.at_
  exact ⟨w.heap.size, h1, Nat.le_refl _, lt_of_block hv, h2, h3⟩
theorem FAt.range {w : World} {E : Nat} {f : Fr} (h : FAt w E f) : w.rangeAt E 0 (FC f).toList := fun j v hv => by
  have h2 := blk_cell h j
  rw [Nat.zero_add, h2, ← Array.getElem?_toList]
  exact hv
/-- A load of a whole frame: so that a walk does not open it cell by cell. -/
def ld29 (v : Value) : Sem Next := do pure (.value (← Instr.loadAt 29 v))
theorem execOp_ld29 (a : Act) (dst : Option Tmp) (x : Operand) (ty : TypeId) (pos : String) (after : Array Edge) (guard : Option (Nat × Bool)) :
    execOp a.eval { dst, op := .load 29 x, type := ty, pos, after, guard } = ld29 (a.eval x) := rfl
attribute [local go_sem ↓] execOp_ld29
theorem row_load (f : Fr) (E : Nat) (w' : World) (h : w'.rangeAt E 0 (FC f).toList) : (ld29 (.pointer (some ⟨E, 0, none⟩))).run Tryd.prog w' = .ok (.value (.agg (FC f))) w' := by
  unfold ld29
  have h2 := run_loadAt_mid (P := Tryd.prog) w' E 0 29 (FC f).toList _ h Tryd.underlying29 rfl (by kernel_rfl)
  rw [Sem.run_bind, h2]
  rfl
theorem FAt.cells2 {w : World} {E : Nat} {f : Fr} {L : List Value} (h : FAt w E f) (hL : (FC f).toList = L) : w.cell? ⟨E, 0, none⟩ = some (.int .i64 f.kind) ∧ w.cell? ⟨E, 1, none⟩ = some (.int .u8 f.src) ∧ w.cell? ⟨E, 2, none⟩ = some (.int .u8 f.dst) ∧ w.cell? ⟨E, 3, none⟩ = some (.int .u16 f.sinc) ∧ w.cell? ⟨E, 4, none⟩ = some (.int .u16 f.dinc) ∧ w.cell? ⟨E, 5, none⟩ = some (.int .u16 f.ec) ∧ w.cell? ⟨E, 6, none⟩ = some (.int .u8 f.ea) ∧ w.cell? ⟨E, 7, none⟩ = some (.int .u16 f.ei) ∧ w.cell? ⟨E, 8, none⟩ = some (.int .u16 f.hop) ∧ w.cell? ⟨E, 9, none⟩ = some (.int .u16 f.hc) ∧ w.cell? ⟨E, 10, none⟩ = some (.int .u8 f.ha) ∧ w.cell? ⟨E, 11, none⟩ = some (.int .u16 f.hi) ∧ w.cell? ⟨E, 12, none⟩ = some (.bool f.wants) ∧ w.cell? ⟨E, 13, none⟩ = some (.int .u8 f.blk) ∧ w.cell? ⟨E, 14, none⟩ = some (.int .u16 f.vinc) ∧ w.cell? ⟨E, 15, none⟩ = some (.int .u32 f.vseq) ∧ w.cell? ⟨E, 16, none⟩ = some (.int .u8 f.part) ∧ w.cell? ⟨E, 17, none⟩ = some (.int .u8 f.parts) ∧ w.cell? ⟨E, 18, none⟩ = some (.string f.bytes) ∧ w.rangeAt E 0 L := by
  subst hL
  obtain ⟨c0, c1, c2, c3, c4, c5, c6, c7, c8, c9, c10, c11, c12, c13, c14, c15, c16, c17, c18⟩ := h.cells
  exact ⟨c0, c1, c2, c3, c4, c5, c6, c7, c8, c9, c10, c11, c12, c13, c14, c15, c16, c17, c18, h.range⟩
theorem FAt.drew {w : World} {E : Nat} {f : Fr} (h : FAt w E f) : FAt w.drew E f := h
set_option maxHeartbeats 1000000 in
theorem encode_no (w : World) (f : Fr) (h : right f = false) :
    Calls Tryd.prog 9 #[.agg (FC f)] w fun e w' => e = .returned (.tuple #[.string ⟨#[]⟩, .int .i64 3]) ∧ Below w.heap.size w w' := by
  have HR := Aside0.mk fun W : World => right_g W f false h
  clear h
  have HN := Aside0.mk (FAt.new w f)
  have HB := Aside0.mk ((Below.refl w.heap.size w).alloc (Nat.le_refl _) (.cells (FC f) 29))
  go_enter Tryd.func9, Tryd.ntmps9
  go_upto_region 1 with (fail)
  generalize w.alloc (.cells (FC f) 29) = W0 at *
  generalize hEq : w.heap.size = E at *
  have HSZ := Aside0.mk hEq
  clear hEq
  have HE := Aside0.mk HN.out.lt
  go_wp2_with (first | ((with_reducible refine gate_dst (N := 6) rfl ?_); refine wpList_load_row rfl 29 (.tmp 1) rfl E rfl 29 (FC f) (0, 0) _ HN.out Tryd.underlying29 rfl (by kernel_rfl) ?_) | (go_at_call 11; (with_reducible refine (HR.out _).mono ?_); rintro e w1 ⟨rfl, hb⟩; have n0_ := Aside0.mk (HN.out.on hb HE.out); have n1_ := Aside0.mk (HB.out.trans (hb.mono (Nat.le_of_lt HE.out))); have n2_ := Aside0.mk (Nat.lt_of_lt_of_le HE.out hb.size); clear HN HB HE hb; have HN := n0_; have HB := n1_; have HE := n2_; clear n0_ n1_ n2_))
  go_ret2
  exact ⟨rfl, by rw [HSZ.out]; first | exact HB.out | exact HB.out.alloc (Nat.le_of_lt HE.out) _⟩
theorem sealed_g (w : World) (y r : ByteArray) (k : Nat) (h : Own.crc_Sealed.f k y = some r) :
    Calls Tryd.prog 27 #[.string y] w fun e w' => e = .returned (.string r) ∧ Below w.heap.size w w' := Own.crc_Sealed.calls k y r w h
def tail_ (f : Fr) : List Int :=
  if f.kind = 3 then two f.hc ++ [f.ha] ++ two f.hi ++ [if f.wants = true then 1 else 0]
  else if f.kind = 4 then [f.blk] ++ two f.vinc ++ [IntKind.u16.wrap (f.vseq / 65536) / 256 % 256] ++ [IntKind.u16.wrap (f.vseq / 65536) % 256] ++ [IntKind.u16.wrap f.vseq / 256 % 256] ++ [IntKind.u16.wrap f.vseq % 256] ++ [f.part] ++ [f.parts] ++ bytesOf f.bytes
  else []
def body (f : Fr) (z : Int) : List Int := [IntKind.u8.wrap f.kind] ++ [IntKind.u8.wrap z] ++ [f.src] ++ two f.sinc ++ [f.dst] ++ two f.dinc ++ two f.ec ++ [f.ea] ++ two f.ei ++ two f.hop ++ tail_ f
set_option maxHeartbeats 4000000 in
theorem encode_yes (w : World) (f : Fr) (h : right f = true) (z : Int) (hz : ∀ W : World, Calls Tryd.prog 14 #[.agg (FC f)] W fun e w' => e = .returned (.int .i64 z) ∧ Below W.heap.size W w')
    (hy : f.bytes.size ≤ 1000) (r : ByteArray) (K_ : Nat) (hs : Own.crc_Sealed.f K_ (strOfNums (body f z)) = some r) :
    Calls Tryd.prog 9 #[.agg (FC f)] w fun e w' => e = .returned (.tuple #[.string r, .int .i64 0]) ∧ Below w.heap.size w w' := by
  have HR := Aside0.mk fun W : World => right_g W f true h
  have HSI := Aside0.mk hz
  have HY := Aside0.mk (show f.bytes.size ≤ 1000000 by omega)
  have HSE := Aside0.mk hs
  clear h hz hy hs
  have HN := Aside0.mk (FAt.new w f)
  have HB := Aside0.mk ((Below.refl w.heap.size w).alloc (Nat.le_refl _) (.cells (FC f) 29))
  go_enter Tryd.func9, Tryd.ntmps9
  go_upto_region 1 with (fail)
  generalize w.alloc (.cells (FC f) 29) = W0 at *
  generalize hEq : w.heap.size = E at *
  have HSZ := Aside0.mk hEq
  clear hEq
  have HE := Aside0.mk HN.out.lt
  go_wp2_with (first | ((with_reducible refine gate_dst (N := 6) rfl ?_); refine wpList_load_row rfl 29 (.tmp 1) rfl E rfl 29 (FC f) (0, 0) _ HN.out Tryd.underlying29 rfl (by kernel_rfl) ?_) | (go_at_call 11; (with_reducible refine (HR.out _).mono ?_); rintro e w1 ⟨rfl, hb⟩; have n0_ := Aside0.mk (HN.out.on hb HE.out); have n1_ := Aside0.mk (HB.out.trans (hb.mono (Nat.le_of_lt HE.out))); have n2_ := Aside0.mk (Nat.lt_of_lt_of_le HE.out hb.size); clear HN HB HE hb; have HN := n0_; have HB := n1_; have HE := n2_; clear n0_ n1_ n2_))
  have n0_ := Aside0.mk HN.out.drew
  have n1_ := Aside0.mk (HB.out.trans (show Below E w1 w1.drew from ⟨rfl, rfl, rfl, Nat.le_refl _, fun _ _ => rfl⟩))
  have n2_ := Aside0.mk (show E < w1.drew.heap.size from HE.out)
  clear HN HB HE
  have HN := n0_
  have HB := n1_
  have HE := n2_
  clear n0_ n1_ n2_
  have hrow := row_load f E
  generalize hL : (FC f).toList = L at hrow
  have HL_ := Aside0.mk hL
  clear hL
  go_region_held_law (fun w' => w'.cell? ⟨E, 0, none⟩ = some (.int .i64 f.kind) ∧ w'.cell? ⟨E, 1, none⟩ = some (.int .u8 f.src) ∧ w'.cell? ⟨E, 2, none⟩ = some (.int .u8 f.dst) ∧ w'.cell? ⟨E, 3, none⟩ = some (.int .u16 f.sinc) ∧ w'.cell? ⟨E, 4, none⟩ = some (.int .u16 f.dinc) ∧ w'.rangeAt E 0 L) ((obtain ⟨c0, c1, c2, c3, c4, c5, c6, c7, c8, c9, c10, c11, c12, c13, c14, c15, c16, c17, c18⟩ := HN.out.cells; exact ⟨c0, c1, c2, c3, c4, HL_.out ▸ HN.out.range⟩)) (first | (go_at_call 21; (with_reducible refine (pen_new2 _).mono ?_); rintro e w3 ⟨B, rfl, hBE, hBs, hp, hb⟩; have HP := Aside0.mk hp; have HEB := Aside0.mk (show E < B ∧ E ≤ B from ⟨Nat.lt_of_lt_of_le HE.out hBE, Nat.le_of_lt (Nat.lt_of_lt_of_le HE.out hBE)⟩); have HBS := Aside0.mk hBs; have n0_ := Aside0.mk (HN.out.on hb HE.out); have n1_ := Aside0.mk (HB.out.trans (hb.mono (Nat.le_of_lt HE.out))); clear HN HB HE hp hb hBE hBs; have HN := n0_; have HB := n1_; clear n0_ n1_) | (go_at_call 22; (with_reducible refine (pen_Byte _ B B _ _ HP.out ?hl).mono ?_); (case hl => first | (simp [two]; done) | (simp [two]; omega)); rintro e w4 ⟨rfl, hp, hb, hk⟩; have n0_ := Aside0.mk hp; have n1_ := Aside0.mk (HB.out.trans (hb.mono HEB.out.2)); have n2_ := Aside0.mk (HN.out.on hb HEB.out.1); have n3_ := Aside0.mk (Nat.lt_of_lt_of_le HBS.out hb.size); clear HP HB HN HBS hp hb hk; have HP := n0_; have HB := n1_; have HN := n2_; have HBS := n3_; clear n0_ n1_ n2_ n3_) | (go_at_call 14; (with_reducible refine (HSI.out _).mono ?_); rintro e w4 ⟨rfl, hb⟩; have n0_ := Aside0.mk (HP.out.move (fun k _ hlt => hb.block k hlt) hb.size); have n1_ := Aside0.mk (HB.out.trans (hb.mono (Nat.le_of_lt (Nat.lt_of_le_of_lt HEB.out.2 HBS.out)))); have n2_ := Aside0.mk (HN.out.on hb (Nat.lt_trans HEB.out.1 HBS.out)); have n3_ := Aside0.mk (Nat.lt_of_lt_of_le HBS.out hb.size); clear HP HB HN HBS hb; have HP := n0_; have HB := n1_; have HN := n2_; have HBS := n3_; clear n0_ n1_ n2_ n3_) | (go_at_call 23; (with_reducible refine (pen_Two _ B B _ _ HP.out ?hl).mono ?_); (case hl => first | (simp [two]; done) | (simp [two]; omega)); rintro e w4 ⟨rfl, hp, hb, hk⟩; have n0_ := Aside0.mk hp; have n1_ := Aside0.mk (HB.out.trans (hb.mono HEB.out.2)); have n2_ := Aside0.mk (HN.out.on hb HEB.out.1); have n3_ := Aside0.mk (Nat.lt_of_lt_of_le HBS.out hb.size); clear HP HB HN HBS hp hb hk; have HP := n0_; have HB := n1_; have HN := n2_; have HBS := n3_; clear n0_ n1_ n2_ n3_))
  clear hrow
  obtain ⟨c0, c1, c2, c3, c4, c5, c6, c7, c8, c9, c10, c11, c12, c13, c14, c15, c16, c17, c18⟩ := HN.out.cells
  go_upto_region 6 with (first | (go_at_call 24; (with_reducible refine (pen_put _ B B _ _ _ _ HP.out ?hl HBS.out).mono ?_); (case hl => first | (simp [two]; done) | (simp [two]; omega)); rintro e w4 ⟨rfl, hp, hb⟩; have n0_ := Aside0.mk hp; have n1_ := Aside0.mk (HB.out.trans (hb.mono HEB.out.2)); have n2_ := Aside0.mk (HN.out.on hb HEB.out.1); have n3_ := Aside0.mk (Nat.lt_of_lt_of_le HBS.out hb.size); clear c0 c1 c2 c3 c4 c5 c6 c7 c8 c9 c10 c11 c12 c13 c14 c15 c16 c17 c18 HP HB HN HBS hp hb; have HP := n0_; have HB := n1_; have HN := n2_; have HBS := n3_; clear n0_ n1_ n2_ n3_; obtain ⟨c0, c1, c2, c3, c4, c5, c6, c7, c8, c9, c10, c11, c12, c13, c14, c15, c16, c17, c18⟩ := HN.out.cells) | (go_at_call 23; (with_reducible refine (pen_Two _ B B _ _ HP.out ?hl).mono ?_); (case hl => first | (simp [two]; done) | (simp [two]; omega)); rintro e w4 ⟨rfl, hp, hb, hk⟩; have n0_ := Aside0.mk hp; have n1_ := Aside0.mk (HB.out.trans (hb.mono HEB.out.2)); have n2_ := Aside0.mk (HN.out.on hb HEB.out.1); have n3_ := Aside0.mk (Nat.lt_of_lt_of_le HBS.out hb.size); clear c0 c1 c2 c3 c4 c5 c6 c7 c8 c9 c10 c11 c12 c13 c14 c15 c16 c17 c18 HP HB HN HBS hp hb hk; have HP := n0_; have HB := n1_; have HN := n2_; have HBS := n3_; clear n0_ n1_ n2_ n3_; obtain ⟨c0, c1, c2, c3, c4, c5, c6, c7, c8, c9, c10, c11, c12, c13, c14, c15, c16, c17, c18⟩ := HN.out.cells))
  by_cases k3 : f.kind = 3
  · have b3 : (f.kind == 3) = true := beq_iff_eq.2 k3
    cases hw : f.wants with
    | true =>
      have HT := Aside0.mk (show tail_ f = two f.hc ++ [f.ha] ++ two f.hi ++ [1] by unfold tail_; rw [if_pos k3, hw]; rfl)
      rw [hw] at c12
      rw [k3] at c0
      have HK3 := Aside0.mk k3
      have HWA := Aside0.mk hw
      clear b3 hw k3
      go_wp2_with (first | (go_at_call 24; (with_reducible refine (pen_put _ B B _ _ _ _ HP.out ?hl HBS.out).mono ?_); (case hl => first | (simp [two]; done) | (simp [two]; omega)); rintro e w4 ⟨rfl, hp, hb⟩; have n0_ := Aside0.mk hp; have n1_ := Aside0.mk (HB.out.trans (hb.mono HEB.out.2)); have n2_ := Aside0.mk (HN.out.on hb HEB.out.1); have n3_ := Aside0.mk (Nat.lt_of_lt_of_le HBS.out hb.size); clear c0 c1 c2 c3 c4 c5 c6 c7 c8 c9 c10 c11 c12 c13 c14 c15 c16 c17 c18 HP HB HN HBS hp hb; have HP := n0_; have HB := n1_; have HN := n2_; have HBS := n3_; clear n0_ n1_ n2_ n3_; obtain ⟨c0, c1, c2, c3, c4, c5, c6, c7, c8, c9, c10, c11, c12, c13, c14, c15, c16, c17, c18⟩ := HN.out.cells; rw [HWA.out] at c12; rw [HK3.out] at c0) | (go_at_call 22; (with_reducible refine (pen_Byte _ B B _ _ HP.out ?hl).mono ?_); (case hl => first | (simp [two]; done) | (simp [two]; omega)); rintro e w4 ⟨rfl, hp, hb, hk⟩; have n0_ := Aside0.mk hp; have n1_ := Aside0.mk (HB.out.trans (hb.mono HEB.out.2)); have n2_ := Aside0.mk (HN.out.on hb HEB.out.1); have n3_ := Aside0.mk (Nat.lt_of_lt_of_le HBS.out hb.size); clear c0 c1 c2 c3 c4 c5 c6 c7 c8 c9 c10 c11 c12 c13 c14 c15 c16 c17 c18 HP HB HN HBS hp hb hk; have HP := n0_; have HB := n1_; have HN := n2_; have HBS := n3_; clear n0_ n1_ n2_ n3_; obtain ⟨c0, c1, c2, c3, c4, c5, c6, c7, c8, c9, c10, c11, c12, c13, c14, c15, c16, c17, c18⟩ := HN.out.cells; rw [HWA.out] at c12; rw [HK3.out] at c0) | (go_at_call 28; (with_reducible refine (pen_String _ B B _ HP.out).mono ?_); rintro e w5 ⟨rfl, rfl⟩) | (go_at_call 27; (with_reducible refine (sealed_g _ _ r K_ ?hs).mono ?_); (case hs => (have h_ := HSE.out; unfold body at h_; rw [HT.out] at h_; simp only [two, List.append_assoc, List.cons_append, List.nil_append] at h_ ⊢; exact h_)); rintro e w6 ⟨rfl, hb⟩; have n1_ := Aside0.mk (HB.out.trans (hb.mono (Nat.le_of_lt (Nat.lt_of_le_of_lt HEB.out.2 HBS.out)))); clear HB hb; have HB := n1_; clear n1_))
      go_ret2
      exact ⟨rfl, by rw [HSZ.out]; first | exact HB.out | exact HB.out.alloc (Nat.le_of_lt HE.out) _⟩
    | false =>
      have HT := Aside0.mk (show tail_ f = two f.hc ++ [f.ha] ++ two f.hi ++ [0] by unfold tail_; rw [if_pos k3, hw]; rfl)
      rw [hw] at c12
      rw [k3] at c0
      have HK3 := Aside0.mk k3
      have HWA := Aside0.mk hw
      clear b3 hw k3
      go_wp2_with (first | (go_at_call 24; (with_reducible refine (pen_put _ B B _ _ _ _ HP.out ?hl HBS.out).mono ?_); (case hl => first | (simp [two]; done) | (simp [two]; omega)); rintro e w4 ⟨rfl, hp, hb⟩; have n0_ := Aside0.mk hp; have n1_ := Aside0.mk (HB.out.trans (hb.mono HEB.out.2)); have n2_ := Aside0.mk (HN.out.on hb HEB.out.1); have n3_ := Aside0.mk (Nat.lt_of_lt_of_le HBS.out hb.size); clear c0 c1 c2 c3 c4 c5 c6 c7 c8 c9 c10 c11 c12 c13 c14 c15 c16 c17 c18 HP HB HN HBS hp hb; have HP := n0_; have HB := n1_; have HN := n2_; have HBS := n3_; clear n0_ n1_ n2_ n3_; obtain ⟨c0, c1, c2, c3, c4, c5, c6, c7, c8, c9, c10, c11, c12, c13, c14, c15, c16, c17, c18⟩ := HN.out.cells; rw [HWA.out] at c12; rw [HK3.out] at c0) | (go_at_call 22; (with_reducible refine (pen_Byte _ B B _ _ HP.out ?hl).mono ?_); (case hl => first | (simp [two]; done) | (simp [two]; omega)); rintro e w4 ⟨rfl, hp, hb, hk⟩; have n0_ := Aside0.mk hp; have n1_ := Aside0.mk (HB.out.trans (hb.mono HEB.out.2)); have n2_ := Aside0.mk (HN.out.on hb HEB.out.1); have n3_ := Aside0.mk (Nat.lt_of_lt_of_le HBS.out hb.size); clear c0 c1 c2 c3 c4 c5 c6 c7 c8 c9 c10 c11 c12 c13 c14 c15 c16 c17 c18 HP HB HN HBS hp hb hk; have HP := n0_; have HB := n1_; have HN := n2_; have HBS := n3_; clear n0_ n1_ n2_ n3_; obtain ⟨c0, c1, c2, c3, c4, c5, c6, c7, c8, c9, c10, c11, c12, c13, c14, c15, c16, c17, c18⟩ := HN.out.cells; rw [HWA.out] at c12; rw [HK3.out] at c0) | (go_at_call 28; (with_reducible refine (pen_String _ B B _ HP.out).mono ?_); rintro e w5 ⟨rfl, rfl⟩) | (go_at_call 27; (with_reducible refine (sealed_g _ _ r K_ ?hs).mono ?_); (case hs => (have h_ := HSE.out; unfold body at h_; rw [HT.out] at h_; simp only [two, List.append_assoc, List.cons_append, List.nil_append] at h_ ⊢; exact h_)); rintro e w6 ⟨rfl, hb⟩; have n1_ := Aside0.mk (HB.out.trans (hb.mono (Nat.le_of_lt (Nat.lt_of_le_of_lt HEB.out.2 HBS.out)))); clear HB hb; have HB := n1_; clear n1_))
      go_ret2
      exact ⟨rfl, by rw [HSZ.out]; first | exact HB.out | exact HB.out.alloc (Nat.le_of_lt HE.out) _⟩
  · have b3 : (f.kind == 3) = false := beq_eq_false_iff_ne.2 k3
    by_cases k4 : f.kind = 4
    · have HT := Aside0.mk (show tail_ f = [f.blk] ++ two f.vinc ++ [IntKind.u16.wrap (f.vseq / 65536) / 256 % 256] ++ [IntKind.u16.wrap (f.vseq / 65536) % 256] ++ [IntKind.u16.wrap f.vseq / 256 % 256] ++ [IntKind.u16.wrap f.vseq % 256] ++ [f.part] ++ [f.parts] ++ bytesOf f.bytes by unfold tail_; rw [if_neg k3, if_pos k4])
      rw [k4] at c0
      have HK4 := Aside0.mk k4
      clear b3 k3 k4
      go_upto_region 14 with (fail)
      clear c0 c1 c2 c3 c4 c5 c6 c7 c8 c9 c10 c11 c12 c13 c14 c15 c16 c17 c18
      have n0_ := Aside0.mk HN.out.drew
      have n1_ := Aside0.mk (HB.out.trans (show Below E w4 w4.drew from ⟨rfl, rfl, rfl, Nat.le_refl _, fun _ _ => rfl⟩))
      have n2_ := Aside0.mk (show B < w4.drew.heap.size from HBS.out)
      have n3_ := Aside0.mk (HP.out.drawn (w' := w4.drew) ⟨1, rfl⟩)
      clear HN HB HBS HP
      have HN := n0_
      have HB := n1_
      have HBS := n2_
      have HP := n3_
      clear n0_ n1_ n2_ n3_
      go_region_held_law (fun w' => w'.cell? ⟨E, 13, none⟩ = some (.int .u8 f.blk) ∧ w'.cell? ⟨E, 14, none⟩ = some (.int .u16 f.vinc) ∧ w'.cell? ⟨E, 15, none⟩ = some (.int .u32 f.vseq) ∧ w'.cell? ⟨E, 16, none⟩ = some (.int .u8 f.part) ∧ w'.cell? ⟨E, 17, none⟩ = some (.int .u8 f.parts) ∧ w'.cell? ⟨E, 18, none⟩ = some (.string f.bytes)) ((obtain ⟨c0, c1, c2, c3, c4, c5, c6, c7, c8, c9, c10, c11, c12, c13, c14, c15, c16, c17, c18⟩ := HN.out.cells; exact ⟨c13, c14, c15, c16, c17, c18⟩)) (first | (go_at_call 22; (with_reducible refine (pen_Byte _ B B _ _ HP.out ?hl).mono ?_); (case hl => first | (simp [two]; done) | (simp [two]; omega)); rintro e w4 ⟨rfl, hp, hb, hk⟩; have n0_ := Aside0.mk hp; have n1_ := Aside0.mk (HB.out.trans (hb.mono HEB.out.2)); have n2_ := Aside0.mk (HN.out.on hb HEB.out.1); have n3_ := Aside0.mk (Nat.lt_of_lt_of_le HBS.out hb.size); clear HP HB HN HBS hp hb hk; have HP := n0_; have HB := n1_; have HN := n2_; have HBS := n3_; clear n0_ n1_ n2_ n3_) | (go_at_call 23; (with_reducible refine (pen_Two _ B B _ _ HP.out ?hl).mono ?_); (case hl => first | (simp [two]; done) | (simp [two]; omega)); rintro e w4 ⟨rfl, hp, hb, hk⟩; have n0_ := Aside0.mk hp; have n1_ := Aside0.mk (HB.out.trans (hb.mono HEB.out.2)); have n2_ := Aside0.mk (HN.out.on hb HEB.out.1); have n3_ := Aside0.mk (Nat.lt_of_lt_of_le HBS.out hb.size); clear HP HB HN HBS hp hb hk; have HP := n0_; have HB := n1_; have HN := n2_; have HBS := n3_; clear n0_ n1_ n2_ n3_) | (go_at_call 25; (with_reducible refine (pen_Four _ B B _ _ HP.out ?hl).mono ?_); (case hl => first | (simp [two]; done) | (simp [two]; omega)); rintro e w4 ⟨rfl, hp, hb, hk⟩; have n0_ := Aside0.mk hp; have n1_ := Aside0.mk (HB.out.trans (hb.mono HEB.out.2)); have n2_ := Aside0.mk (HN.out.on hb HEB.out.1); have n3_ := Aside0.mk (Nat.lt_of_lt_of_le HBS.out hb.size); clear HP HB HN HBS hp hb hk; have HP := n0_; have HB := n1_; have HN := n2_; have HBS := n3_; clear n0_ n1_ n2_ n3_) | (go_at_call 26; (with_reducible refine (pen_Text _ B B _ _ HP.out ?hl HY.out).mono ?_); (case hl => first | (simp [two]; done) | (simp [two]; omega)); rintro e w4 ⟨rfl, hp, hb, hk⟩; have n0_ := Aside0.mk hp; have n1_ := Aside0.mk (HB.out.trans (hb.mono HEB.out.2)); have n2_ := Aside0.mk (HN.out.on hb HEB.out.1); have n3_ := Aside0.mk (Nat.lt_of_lt_of_le HBS.out hb.size); clear HP HB HN HBS hp hb hk; have HP := n0_; have HB := n1_; have HN := n2_; have HBS := n3_; clear n0_ n1_ n2_ n3_))
      go_wp2_with (first | (go_at_call 28; (with_reducible refine (pen_String _ B B _ HP.out).mono ?_); rintro e w5 ⟨rfl, rfl⟩) | (go_at_call 27; (with_reducible refine (sealed_g _ _ r K_ ?hs).mono ?_); (case hs => (have h_ := HSE.out; unfold body at h_; rw [HT.out] at h_; simp only [two, List.append_assoc, List.cons_append, List.nil_append] at h_ ⊢; exact h_)); rintro e w6 ⟨rfl, hb⟩; have n1_ := Aside0.mk (HB.out.trans (hb.mono (Nat.le_of_lt (Nat.lt_of_le_of_lt HEB.out.2 HBS.out)))); clear HB hb; have HB := n1_; clear n1_))
      go_ret2
      exact ⟨rfl, by rw [HSZ.out]; first | exact HB.out | exact HB.out.alloc (Nat.le_of_lt HE.out) _⟩
    · have HT := Aside0.mk (show tail_ f = [] by unfold tail_; rw [if_neg k3, if_neg k4])
      have b4 : (f.kind == 4) = false := beq_eq_false_iff_ne.2 k4
      clear k3 k4
      go_wp2_with (first | (go_at_call 28; (with_reducible refine (pen_String _ B B _ HP.out).mono ?_); rintro e w5 ⟨rfl, rfl⟩) | (go_at_call 27; (with_reducible refine (sealed_g _ _ r K_ ?hs).mono ?_); (case hs => (have h_ := HSE.out; unfold body at h_; rw [HT.out] at h_; simp only [two, List.append_assoc, List.cons_append, List.nil_append] at h_ ⊢; exact h_)); rintro e w6 ⟨rfl, hb⟩; have n1_ := Aside0.mk (HB.out.trans (hb.mono (Nat.le_of_lt (Nat.lt_of_le_of_lt HEB.out.2 HBS.out)))); clear HB hb; have HB := n1_; clear n1_))
      go_ret2
      exact ⟨rfl, by rw [HSZ.out]; first | exact HB.out | exact HB.out.alloc (Nat.le_of_lt HE.out) _⟩
end Go.Proofs.YtkcaifpmceoflaaDoor.Frm

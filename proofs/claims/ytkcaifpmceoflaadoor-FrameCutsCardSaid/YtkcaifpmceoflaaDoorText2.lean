/- The walk of frame.Text for data. Conditions: those that each statement names. -/
import Derived.Test.YtkcaifpmceoflaaDoorText1
namespace Go.Proofs.YtkcaifpmceoflaaDoor.Frm
open Go.RowKit Go.Proofs.YtkcaifpmceoflaaDoorW.PrintWords Go.Proofs.YtkcaifpmceoflaaDoorW.PrintLast Go.Proofs.YtkcaifpmceoflaaDoorW.PrintMore
set_option linter.unusedVariables false
theorem Tx.ver {w0 w : World} {f : Fr} {X : Nat} {n : ByteArray} {t : Bool} {a b : Int} (h : Tx w0 w f X n t a b) : w.cell? ⟨w0.heap.size, 14, none⟩ = some (.int .u16 f.vinc) ∧ w.cell? ⟨w0.heap.size, 15, none⟩ = some (.int .u32 f.vseq) := ⟨blk_cell h.at_ 14, blk_cell h.at_ 15⟩
theorem Tx.prt {w0 w : World} {f : Fr} {X : Nat} {n : ByteArray} {t : Bool} {a b : Int} (h : Tx w0 w f X n t a b) : w.cell? ⟨w0.heap.size, 13, none⟩ = some (.int .u8 f.blk) ∧ w.cell? ⟨w0.heap.size, 16, none⟩ = some (.int .u8 f.part) ∧ w.cell? ⟨w0.heap.size, 17, none⟩ = some (.int .u8 f.parts) := ⟨blk_cell h.at_ 13, blk_cell h.at_ 16, blk_cell h.at_ 17⟩
set_option maxHeartbeats 4000000 in
set_option maxRecDepth 100000 in
theorem text_data (w : World) (f : Fr) (hr : Rng f) (h4 : f.kind = 4) (n : ByteArray) (a b : Int) (o : Bool) (hn : n.size ≤ 100) (hs : Own.frame_shapes.f f.kind = some (n, false, a, b, o)) (ht : Own.Tabs w) :
    Calls Tryd.prog 12 #[.agg (FC f)] w fun e w' => e = .returned (.string (txt (head5 f n (⟨#[42]⟩ : ByteArray) ++ [(⟨#[98, 108, 111, 99, 107]⟩ : ByteArray), dgs f.blk, dgs f.vinc ++ (⟨#[46]⟩ : ByteArray) ++ dgs f.vseq, dgs (f.part + 1), (⟨#[111, 102]⟩ : ByteArray), dgs f.parts]))) ∧ Below w.heap.size w w' := by
  have HSH := Aside0.mk fun W : World => shapes_f f.kind W _ _ _ _ _ hs
  have r1 := dgs_size f.src (by have := hr.src; omega)
  have r3 := dgs_size f.hop (by have := hr.hop; omega)
  have r4 := etext_size f.ec f.ea f.ei (by have := hr.ec; omega) (by have := hr.ea; omega) (by have := hr.ei; omega)
  have HSRC := Aside0.mk fun W ht => itoa_g f.src hr.src.1 (by have := hr.src; omega) W ht
  have HHOP := Aside0.mk fun W ht => itoa_g f.hop hr.hop.1 (by have := hr.hop; omega) W ht
  have HEP := Aside0.mk fun W ht => etext_f W f.ec f.ea f.ei hr.ec hr.ea hr.ei ht
  have r5 := dgs_size f.vinc (by have := hr.vinc; omega)
  have r6 := dgs_size f.vseq (by have := hr.vseq; omega)
  have r7 := dgs_size f.blk (by have := hr.blk; omega)
  have r8 := dgs_size (f.part + 1) (by have := hr.part; omega)
  have r9 := dgs_size f.parts (by have := hr.parts; omega)
  have HVI := Aside0.mk fun W ht => itoa_g f.vinc hr.vinc.1 (by have := hr.vinc; omega) W ht
  have HVS := Aside0.mk fun W ht => fmt_g f.vseq hr.vseq.1 (by have := hr.vseq; omega) W ht
  have HBL := Aside0.mk fun W ht => itoa_g f.blk hr.blk.1 (by have := hr.blk; omega) W ht
  have HPA := Aside0.mk fun W ht => itoa_g (f.part + 1) (by have := hr.part; omega) (by have := hr.part; omega) W ht
  have HPS := Aside0.mk fun W ht => itoa_g f.parts hr.parts.1 (by have := hr.parts; omega) W ht
  have i5 : IntKind.i64.wrap f.vinc = f.vinc := IntWalk.i64_in f.vinc (by have := hr.vinc; omega)
  have i6 : IntKind.u64.wrap f.vseq = f.vseq := IntWalk.u64_in f.vseq (by have := hr.vseq; omega)
  have i7 : IntKind.i64.wrap f.blk = f.blk := IntWalk.i64_in f.blk (by have := hr.blk; omega)
  have i8 : IntKind.i64.wrap f.part = f.part := IntWalk.i64_in f.part (by have := hr.part; omega)
  have i9 : IntKind.i64.wrap (f.part + 1) = f.part + 1 := IntWalk.i64_in (f.part + 1) (by have := hr.part; omega)
  have i10 : IntKind.i64.wrap f.parts = f.parts := IntWalk.i64_in f.parts (by have := hr.parts; omega)
  have HALL := Aside0.mk (fun c0 d0 => txt_n c0 11 d0 (head5 f n (⟨#[42]⟩ : ByteArray) ++ [(⟨#[98, 108, 111, 99, 107]⟩ : ByteArray), dgs f.blk, dgs f.vinc ++ (⟨#[46]⟩ : ByteArray) ++ dgs f.vseq, dgs (f.part + 1), (⟨#[111, 102]⟩ : ByteArray), dgs f.parts]) rfl)
  unfold head5 at HALL
  unfold head5
  have i1 : IntKind.i64.wrap f.src = f.src := IntWalk.i64_in f.src (by have := hr.src; omega)
  have i3 : IntKind.i64.wrap f.hop = f.hop := IntWalk.i64_in f.hop (by have := hr.hop; omega)
  generalize dgs f.vinc = S5 at *
  generalize dgs f.vseq = S6 at *
  generalize dgs f.blk = S7 at *
  generalize dgs (f.part + 1) = S8 at *
  generalize dgs f.parts = S9 at *
  generalize dgs f.src = S1 at *
  generalize dgs f.hop = S3 at *
  generalize etext f.ec f.ea f.ei = S4 at *
  have HSM := Aside0.mk (show ∀ x ∈ [n, S1, (⟨#[62]⟩ : ByteArray), (⟨#[42]⟩ : ByteArray), S4 ++ (⟨#[47]⟩ : ByteArray) ++ S3] ++ [(⟨#[98, 108, 111, 99, 107]⟩ : ByteArray), S7, S5 ++ (⟨#[46]⟩ : ByteArray) ++ S6, S8, (⟨#[111, 102]⟩ : ByteArray), S9], x.size ≤ 100 from by
    intro x hx
    simp only [List.cons_append, List.nil_append, List.mem_cons, List.not_mem_nil, or_false] at hx
    rcases hx with rfl | rfl | rfl | rfl | rfl | rfl | rfl | rfl | rfl | rfl | rfl
    · exact hn
    · omega
    · decide
    · decide
    · simp only [ByteArray.size_append]
      show _ + 1 + _ ≤ 100
      omega
    · decide
    · omega
    · simp only [ByteArray.size_append]
      show _ + 1 + _ ≤ 100
      omega
    · omega
    · decide
    · omega)
  have s3 : (9223372036854775807 < S5.size + 1) = False := eq_false (by omega)
  have s4 : (9223372036854775807 < S5.size + 1 + S6.size) = False := eq_false (by omega)
  have s1 : (9223372036854775807 < S4.size + 1) = False := eq_false (by omega)
  have s2 : (9223372036854775807 < S4.size + 1 + S3.size) = False := eq_false (by omega)
  have k3 : (f.kind == 3) = false := by rw [h4]; rfl
  have k4 : (f.kind == 4) = true := by rw [h4]; rfl
  have HT := Aside0.mk (Own.tabs_alloc ht (.cells (FC f) 29))
  have HN := Aside0.mk (FAt.new w f)
  have HB := Aside0.mk ((Below.refl w.heap.size w).alloc (Nat.le_refl _) (.cells (FC f) 29))
  have HT0 := Aside0.mk ht
  clear hs ht hr hn h4
  go_enter Tryd.func12, Tryd.ntmps12
  go_upto_region 1 with (fail)
  generalize w.alloc (.cells (FC f) 29) = W0 at *
  obtain ⟨c0, c1, c2, c3, c4, c5, c6, c7, c8, c9, c10, c11, c12, c13, c14, c15, c16, c17, c18⟩ := HN.out.cells
  go_upto_region 2 with (go_at_call 29; (with_reducible refine (HSH.out _).mono ?_); rintro e w1 ⟨rfl, hb⟩; obtain ⟨W1, hW1, hx⟩ := Tx.new HN.out HT.out HB.out hb n false a b; have HX := Aside0.mk hx; clear HN HB HT hb hx c0 c1 c2 c3 c4 c5 c6 c7 c8 c9 c10 c11 c12 c13 c14 c15 c16 c17 c18)
  clear hW1
  generalize w1.heap.size = X at *
  obtain ⟨c0, c1, c2, c3, c4, c5, c6, c7, c8, c9, c10, c11, c12, c13, c14, c15, c16, c17, c18⟩ := HX.out.at_.cells
  have x1 : W1.cell? ⟨X, 1, none⟩ = some (.bool false) := blk_cell HX.out.sh 1
  go_upto_region 5 with (fail)
  have n0_ := Aside0.mk HX.out.drew
  clear HX
  have HX := n0_
  clear n0_
  generalize hEq : w.heap.size = E at *
  have HSZ := Aside0.mk hEq
  clear hEq
  go_region_held_law (fun w' => w'.cell? ⟨E, 1, none⟩ = some (.int .u8 f.src) ∧ w'.cell? ⟨E, 5, none⟩ = some (.int .u16 f.ec) ∧ w'.cell? ⟨E, 6, none⟩ = some (.int .u8 f.ea) ∧ w'.cell? ⟨E, 7, none⟩ = some (.int .u16 f.ei) ∧ w'.cell? ⟨E, 8, none⟩ = some (.int .u16 f.hop) ∧ w'.cell? ⟨X, 0, none⟩ = some (.string n)) ((rw [← HSZ.out]; first | exact HX.out.five | exact (HX.out.alloc _).five)) (first | (go_at_call 31; (with_reducible refine (HSRC.out _ HX.out.tab).mono ?_); rintro e w3 ⟨rfl, hb⟩; have n0_ := Aside0.mk (HX.out.on hb); clear HX hb; have HX := n0_; clear n0_) | (go_at_call 31; (with_reducible refine (HHOP.out _ HX.out.tab).mono ?_); rintro e w3 ⟨rfl, hb⟩; have n0_ := Aside0.mk (HX.out.on hb); clear HX hb; have HX := n0_; clear n0_) | (go_at_call 32; (with_reducible refine (HEP.out _ HX.out.tab).mono ?_); rintro e w3 ⟨rfl, hb⟩; have n0_ := Aside0.mk (HX.out.on hb); clear HX hb; have HX := n0_; clear n0_))
  have hX := HX.out.alloc (.cells #[.string n, .string S1, .string (⟨#[62]⟩ : ByteArray), .string (⟨#[42]⟩ : ByteArray), .string (S4 ++ (⟨#[47]⟩ : ByteArray) ++ S3)] 9)
  have hR := lit_R w3 [n, S1, (⟨#[62]⟩ : ByteArray), (⟨#[42]⟩ : ByteArray), S4 ++ (⟨#[47]⟩ : ByteArray) ++ S3] w.heap.size (by have := HX.out.below.size; exact this) (by simp)
  have hR2 : Kd.R Kd.string 9 (w3.alloc (.cells #[.string n, .string S1, .string (⟨#[62]⟩ : ByteArray), .string (⟨#[42]⟩ : ByteArray), .string (S4 ++ (⟨#[47]⟩ : ByteArray) ++ S3)] 9)) w.heap.size (fun _ => True) (.slice (some ⟨w3.heap.size, 0, none⟩) 5 5) [n, S1, (⟨#[62]⟩ : ByteArray), (⟨#[42]⟩ : ByteArray), S4 ++ (⟨#[47]⟩ : ByteArray) ++ S3] := hR
  clear hR HX
  generalize w3.alloc (.cells #[.string n, .string S1, .string (⟨#[62]⟩ : ByteArray), .string (⟨#[42]⟩ : ByteArray), .string (S4 ++ (⟨#[47]⟩ : ByteArray) ++ S3)] 9) = W6 at *
  generalize w3.heap.size = G at *
  have HX := Aside0.mk hX
  clear hX
  have HR := Aside0.mk hR2
  clear hR2
  have c0 : W6.cell? ⟨E, 0, none⟩ = some (.int .i64 f.kind) := by rw [← HSZ.out]; exact HX.out.at_.cells.1
  go_upto_region 13 with (fail)
  have n0_ := Aside0.mk HX.out.drew
  have n1_ := Aside0.mk (Kd.R_drew HR.out)
  clear HX HR
  have HX := n0_
  have HR := n1_
  clear n0_ n1_
  clear c0
  go_region_held_law (fun w' => w'.cell? ⟨E, 14, none⟩ = some (.int .u16 f.vinc) ∧ w'.cell? ⟨E, 15, none⟩ = some (.int .u32 f.vseq)) ((rw [← HSZ.out]; exact HX.out.ver)) (first | (go_at_call 31; (with_reducible refine (HVI.out _ HX.out.tab).mono ?_); rintro e w3 ⟨rfl, hb⟩; have n0_ := Aside0.mk (HX.out.on hb); have n1_ := Aside0.mk (Kd.R_below HR.out hb); clear HX HR hb; have HX := n0_; have HR := n1_; clear n0_ n1_) | (go_at_call 33; (with_reducible refine (HVS.out _ HX.out.tab).mono ?_); rintro e w3 ⟨rfl, hb⟩; have n0_ := Aside0.mk (HX.out.on hb); have n1_ := Aside0.mk (Kd.R_below HR.out hb); clear HX HR hb; have HX := n0_; have HR := n1_; clear n0_ n1_))
  go_upto_region 14 with (fail)
  have n0_ := Aside0.mk HX.out.drew
  have n1_ := Aside0.mk (Kd.R_drew HR.out)
  clear HX HR
  have HX := n0_
  have HR := n1_
  clear n0_ n1_
  go_region_held_law (fun w' => w'.cell? ⟨E, 13, none⟩ = some (.int .u8 f.blk) ∧ w'.cell? ⟨E, 16, none⟩ = some (.int .u8 f.part) ∧ w'.cell? ⟨E, 17, none⟩ = some (.int .u8 f.parts)) ((rw [← HSZ.out]; first | exact HX.out.prt | exact (HX.out.alloc _).prt)) (first | (go_at_call 31; (with_reducible refine (HBL.out _ HX.out.tab).mono ?_); rintro e w3 ⟨rfl, hb⟩; have n0_ := Aside0.mk (HX.out.on hb); have n1_ := Aside0.mk (Kd.R_below HR.out hb); clear HX HR hb; have HX := n0_; have HR := n1_; clear n0_ n1_) | (go_at_call 31; (with_reducible refine (HPA.out _ HX.out.tab).mono ?_); rintro e w3 ⟨rfl, hb⟩; have n0_ := Aside0.mk (HX.out.on hb); have n1_ := Aside0.mk (Kd.R_below HR.out hb); clear HX HR hb; have HX := n0_; have HR := n1_; clear n0_ n1_) | (go_at_call 31; (with_reducible refine (HPS.out _ HX.out.tab).mono ?_); rintro e w3 ⟨rfl, hb⟩; have n0_ := Aside0.mk (HX.out.on hb); have n1_ := Aside0.mk (Kd.R_below HR.out hb); clear HX HR hb; have HX := n0_; have HR := n1_; clear n0_ n1_) | (refine Kd.R_append_rows_step Kd.string (w0 := w) w.heap.size (by rfl) (.tmp 69) (.tmp 84) 61 9 (.string ⟨#[]⟩) 16 rfl Tryd.underlying61 info9 rfl (by decide) (by omega) (.slice (some ⟨G, 0, none⟩) 5 5) ([n, S1, (⟨#[62]⟩ : ByteArray), (⟨#[42]⟩ : ByteArray), S4 ++ (⟨#[47]⟩ : ByteArray) ++ S3]) ([(⟨#[98, 108, 111, 99, 107]⟩ : ByteArray), S7, S5 ++ (⟨#[46]⟩ : ByteArray) ++ S6, S8, (⟨#[111, 102]⟩ : ByteArray), S9]) _ _ _ (fun _ => True) (fun _ => False) rfl rfl ?aO ?aR (fun _ _ h => h) (fun _ h => h.elim) (fun _ _ => trivial) ?aB ?aS ?aL ?_; (case aO => exact Kd.R_alloc HR.out _); (case aR => exact (Kd.R_reads' (lit_R _ ([(⟨#[98, 108, 111, 99, 107]⟩ : ByteArray), S7, S5 ++ (⟨#[46]⟩ : ByteArray) ++ S6, S8, (⟨#[111, 102]⟩ : ByteArray), S9]) 0 (Nat.zero_le _) (by simp))).2.2); (case aB => exact (HX.out.alloc _).below); (case aS => exact (HX.out.alloc _).below.size); (case aL => simp); intro v5 w5 ho hb hg hat; have n0_ := Aside0.mk ((HX.out.alloc _).grown HT0.out hb (Kd.R_alloc HR.out _) hg); have n1_ := Aside0.mk ho; clear HX HR ho hb hg hat; have HX := n0_; have HR := n1_; clear n0_ n1_; obtain ⟨A6, k6, e_⟩ := Kd.R_slice HR.out; have e7_ : v5 = .slice A6 11 k6 := e_; clear e_; subst e7_))
  go_wp2_with (go_at_call 34; (with_reducible refine (HALL.out _ _ _ (Kd.R_reads' HR.out).2.2 (Kd.R_reads' HR.out).2.1 ?h1 ?h2).mono ?_); (case h1 => simp); (case h2 => exact HSM.out); rintro e w6 ⟨rfl, hb⟩; have n0_ := Aside0.mk (HX.out.on hb); clear HX HR hb; have HX := n0_; clear n0_)
  go_ret
  exact ⟨rfl, HX.out.below⟩
end Go.Proofs.YtkcaifpmceoflaaDoor.Frm

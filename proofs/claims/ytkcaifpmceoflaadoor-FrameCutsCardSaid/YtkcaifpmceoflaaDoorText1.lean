/- The walk of frame.Text for a status and for data. Conditions: those that each statement names. -/
import Derived.Test.YtkcaifpmceoflaaDoorText0
namespace Go.Proofs.YtkcaifpmceoflaaDoor.Frm
open Go.RowKit Go.Proofs.YtkcaifpmceoflaaDoorW.PrintWords Go.Proofs.YtkcaifpmceoflaaDoorW.PrintLast Go.Proofs.YtkcaifpmceoflaaDoorW.PrintMore
set_option linter.unusedVariables false
theorem info9 : (Tryd.prog.info? 9).map (fun i => (i.zero, i.size, i.bytes)) = some (some (.string ⟨#[]⟩), 1, 16) := by kernel_rfl
theorem txt_n (A0 : Option Addr) (N c0 : Nat) (l : List ByteArray) (hN : l.length = N) (w : World) (hr0 : Kd.C Kd.string w A0 l.length l) (hc0 : l.length ≤ c0) (h1 : l.length ≤ 20) (h2 : ∀ x ∈ l, x.size ≤ 100) :
    Calls Tryd.prog 34 #[.slice A0 N c0, .string (⟨#[32]⟩ : ByteArray)] w fun e w' => e = .returned (.string (txt l)) ∧ Below w.heap.size w w' := by
  subst hN
  exact txt_f A0 c0 l w hr0 hc0 h1 h2
theorem Tx.grown {w0 w w' : World} {f : Fr} {X : Nat} {n : ByteArray} {t : Bool} {a b : Int} {base : Nat} {ok : Nat → Prop} {v : Value} {xs : List ByteArray} (h : Tx w0 w f X n t a b) (ht : Own.Tabs w0) (hb : Below w0.heap.size w0 w') (hR : Kd.R Kd.string 9 w base ok v xs) (hg : w.grownBy w' v.ownBlock) : Tx w0 w' f X n t a b :=
  ⟨blk_grown h.at_ hg (Kd.R_ne hR h.at_ (by decide)), Own.tabs_below ht hb, hb, blk_grown h.sh hg (Kd.R_ne hR h.sh (by decide))⟩
set_option maxHeartbeats 4000000 in
set_option maxRecDepth 100000 in
theorem text_in (w : World) (f : Fr) (hr : Rng f) (h3 : f.kind = 3) (hw : f.wants = true) (n : ByteArray) (a b : Int) (o : Bool) (hn : n.size ≤ 100) (hs : Own.frame_shapes.f f.kind = some (n, true, a, b, o)) (ht : Own.Tabs w) :
    Calls Tryd.prog 12 #[.agg (FC f)] w fun e w' => e = .returned (.string (txt (head5 f n (dgs f.dst) ++ [(⟨#[104, 105, 103, 104]⟩ : ByteArray), etext f.hc f.ha f.hi] ++ [(⟨#[105, 110]⟩ : ByteArray)]))) ∧ Below w.heap.size w w' := by
  have HSH := Aside0.mk fun W : World => shapes_f f.kind W _ _ _ _ _ hs
  have r1 := dgs_size f.src (by have := hr.src; omega)
  have r2 := dgs_size f.dst (by have := hr.dst; omega)
  have r3 := dgs_size f.hop (by have := hr.hop; omega)
  have r4 := etext_size f.ec f.ea f.ei (by have := hr.ec; omega) (by have := hr.ea; omega) (by have := hr.ei; omega)
  have HSRC := Aside0.mk fun W ht => itoa_g f.src hr.src.1 (by have := hr.src; omega) W ht
  have HDST := Aside0.mk fun W ht => itoa_g f.dst hr.dst.1 (by have := hr.dst; omega) W ht
  have HHOP := Aside0.mk fun W ht => itoa_g f.hop hr.hop.1 (by have := hr.hop; omega) W ht
  have HEP := Aside0.mk fun W ht => etext_f W f.ec f.ea f.ei hr.ec hr.ea hr.ei ht
  have HEP2 := Aside0.mk fun W ht => etext_f W f.hc f.ha f.hi hr.hc hr.ha hr.hi ht
  have r5 := etext_size f.hc f.ha f.hi (by have := hr.hc; omega) (by have := hr.ha; omega) (by have := hr.hi; omega)
  have HALL := Aside0.mk (fun c0 d0 => txt_n c0 8 d0 (head5 f n (dgs f.dst) ++ [(⟨#[104, 105, 103, 104]⟩ : ByteArray), etext f.hc f.ha f.hi] ++ [(⟨#[105, 110]⟩ : ByteArray)]) rfl)
  unfold head5 at HALL
  unfold head5
  have i1 : IntKind.i64.wrap f.src = f.src := IntWalk.i64_in f.src (by have := hr.src; omega)
  have i2 : IntKind.i64.wrap f.dst = f.dst := IntWalk.i64_in f.dst (by have := hr.dst; omega)
  have i3 : IntKind.i64.wrap f.hop = f.hop := IntWalk.i64_in f.hop (by have := hr.hop; omega)
  generalize etext f.hc f.ha f.hi = S5 at *
  generalize dgs f.src = S1 at *
  generalize dgs f.dst = S2 at *
  generalize dgs f.hop = S3 at *
  generalize etext f.ec f.ea f.ei = S4 at *
  have HSM := Aside0.mk (show ∀ x ∈ [n, S1, (⟨#[62]⟩ : ByteArray), S2, S4 ++ (⟨#[47]⟩ : ByteArray) ++ S3] ++ [(⟨#[104, 105, 103, 104]⟩ : ByteArray), S5] ++ [(⟨#[105, 110]⟩ : ByteArray)], x.size ≤ 100 from by
    intro x hx
    simp only [List.cons_append, List.nil_append, List.mem_cons, List.not_mem_nil, or_false] at hx
    rcases hx with rfl | rfl | rfl | rfl | rfl | rfl | rfl | rfl
    · exact hn
    · omega
    · decide
    · omega
    · simp only [ByteArray.size_append]
      show _ + 1 + _ ≤ 100
      omega
    · decide
    · omega
    · decide)
  have s1 : (9223372036854775807 < S4.size + 1) = False := eq_false (by omega)
  have s2 : (9223372036854775807 < S4.size + 1 + S3.size) = False := eq_false (by omega)
  have k3 : (f.kind == 3) = true := by rw [h3]; rfl
  have k4 : (f.kind == 4) = false := by rw [h3]; rfl
  have HT := Aside0.mk (Own.tabs_alloc ht (.cells (FC f) 29))
  have HN := Aside0.mk (FAt.new w f)
  have HB := Aside0.mk ((Below.refl w.heap.size w).alloc (Nat.le_refl _) (.cells (FC f) 29))
  have HWA := Aside0.mk hw
  clear hw
  have HT0 := Aside0.mk ht
  clear hs ht hr hn h3
  go_enter Tryd.func12, Tryd.ntmps12
  go_upto_region 1 with (fail)
  generalize w.alloc (.cells (FC f) 29) = W0 at *
  obtain ⟨c0, c1, c2, c3, c4, c5, c6, c7, c8, c9, c10, c11, c12, c13, c14, c15, c16, c17, c18⟩ := HN.out.cells
  go_upto_region 2 with (go_at_call 29; (with_reducible refine (HSH.out _).mono ?_); rintro e w1 ⟨rfl, hb⟩; obtain ⟨W1, hW1, hx⟩ := Tx.new HN.out HT.out HB.out hb n true a b; have HX := Aside0.mk hx; clear HN HB HT hb hx c0 c1 c2 c3 c4 c5 c6 c7 c8 c9 c10 c11 c12 c13 c14 c15 c16 c17 c18)
  clear hW1
  generalize w1.heap.size = X at *
  obtain ⟨c0, c1, c2, c3, c4, c5, c6, c7, c8, c9, c10, c11, c12, c13, c14, c15, c16, c17, c18⟩ := HX.out.at_.cells
  have x1 : W1.cell? ⟨X, 1, none⟩ = some (.bool true) := blk_cell HX.out.sh 1
  go_upto_region 5 with (go_at_call 31; (with_reducible refine (HDST.out _ HX.out.tab).mono ?_); rintro e w2 ⟨rfl, hb⟩; have n0_ := Aside0.mk (HX.out.on hb); clear HX hb c0 c1 c2 c3 c4 c5 c6 c7 c8 c9 c10 c11 c12 c13 c14 c15 c16 c17 c18 x1; have HX := n0_; clear n0_)
  have n0_ := Aside0.mk HX.out.drew
  clear HX
  have HX := n0_
  clear n0_
  generalize hEq : w.heap.size = E at *
  have HSZ := Aside0.mk hEq
  clear hEq
  go_region_held_law (fun w' => w'.cell? ⟨E, 1, none⟩ = some (.int .u8 f.src) ∧ w'.cell? ⟨E, 5, none⟩ = some (.int .u16 f.ec) ∧ w'.cell? ⟨E, 6, none⟩ = some (.int .u8 f.ea) ∧ w'.cell? ⟨E, 7, none⟩ = some (.int .u16 f.ei) ∧ w'.cell? ⟨E, 8, none⟩ = some (.int .u16 f.hop) ∧ w'.cell? ⟨X, 0, none⟩ = some (.string n)) ((rw [← HSZ.out]; first | exact HX.out.five | exact (HX.out.alloc _).five)) (first | (go_at_call 31; (with_reducible refine (HSRC.out _ HX.out.tab).mono ?_); rintro e w3 ⟨rfl, hb⟩; have n0_ := Aside0.mk (HX.out.on hb); clear HX hb; have HX := n0_; clear n0_) | (go_at_call 31; (with_reducible refine (HHOP.out _ HX.out.tab).mono ?_); rintro e w3 ⟨rfl, hb⟩; have n0_ := Aside0.mk (HX.out.on hb); clear HX hb; have HX := n0_; clear n0_) | (go_at_call 32; (with_reducible refine (HEP.out _ HX.out.tab).mono ?_); rintro e w3 ⟨rfl, hb⟩; have n0_ := Aside0.mk (HX.out.on hb); clear HX hb; have HX := n0_; clear n0_))
  have hX := HX.out.alloc (.cells #[.string n, .string S1, .string (⟨#[62]⟩ : ByteArray), .string S2, .string (S4 ++ (⟨#[47]⟩ : ByteArray) ++ S3)] 9)
  have hR := lit_R w3 [n, S1, (⟨#[62]⟩ : ByteArray), S2, S4 ++ (⟨#[47]⟩ : ByteArray) ++ S3] w.heap.size (by have := HX.out.below.size; exact this) (by simp)
  have hR2 : Kd.R Kd.string 9 (w3.alloc (.cells #[.string n, .string S1, .string (⟨#[62]⟩ : ByteArray), .string S2, .string (S4 ++ (⟨#[47]⟩ : ByteArray) ++ S3)] 9)) w.heap.size (fun _ => True) (.slice (some ⟨w3.heap.size, 0, none⟩) 5 5) [n, S1, (⟨#[62]⟩ : ByteArray), S2, S4 ++ (⟨#[47]⟩ : ByteArray) ++ S3] := hR
  clear hR HX
  generalize w3.alloc (.cells #[.string n, .string S1, .string (⟨#[62]⟩ : ByteArray), .string S2, .string (S4 ++ (⟨#[47]⟩ : ByteArray) ++ S3)] 9) = W6 at *
  generalize w3.heap.size = G at *
  have HX := Aside0.mk hX
  clear hX
  have HR := Aside0.mk hR2
  clear hR2
  obtain ⟨c0, c1, c2, c3, c4, c5, c6, c7, c8, c9, c10, c11, c12, c13, c14, c15, c16, c17, c18⟩ := HX.out.at_.cells
  rw [HSZ.out] at c0 c1 c2 c3 c4 c5 c6 c7 c8 c9 c10 c11 c12 c13 c14 c15 c16 c17 c18
  rw [HWA.out] at c12
  go_wp2_with (first | (go_at_call 32; (with_reducible refine (HEP2.out _ HX.out.tab).mono ?_); rintro e w4 ⟨rfl, hb⟩; have n0_ := Aside0.mk (HX.out.on hb); have n1_ := Aside0.mk (Kd.R_below HR.out hb); clear HX HR hb c0 c1 c2 c3 c4 c5 c6 c7 c8 c9 c10 c11 c12 c13 c14 c15 c16 c17 c18; have HX := n0_; have HR := n1_; clear n0_ n1_) | ((with_reducible refine gate_builtin (b := .append) (xs := #[.tmp 41, .tmp 45]) rfl ?_); at_builtin; refine Kd.R_append_rows Kd.string (w0 := w) w.heap.size rfl (.tmp 41) (.tmp 45) 61 9 (.string ⟨#[]⟩) 16 rfl Tryd.underlying61 info9 rfl (by decide) (by omega) (.slice (some ⟨G, 0, none⟩) 5 5) ([n, S1, (⟨#[62]⟩ : ByteArray), S2, S4 ++ (⟨#[47]⟩ : ByteArray) ++ S3]) ([(⟨#[104, 105, 103, 104]⟩ : ByteArray), S5]) _ _ _ (fun _ => True) (fun _ => False) rfl rfl ?aO ?aR (fun _ _ h => h) (fun _ h => h.elim) (fun _ _ => trivial) ?aB ?aS ?aL ?_; (case aO => exact Kd.R_alloc HR.out _); (case aR => exact (Kd.R_reads' (lit_R _ ([(⟨#[104, 105, 103, 104]⟩ : ByteArray), S5]) 0 (Nat.zero_le _) (by simp))).2.2); (case aB => exact (HX.out.alloc _).below); (case aS => exact (HX.out.alloc _).below.size); (case aL => simp); intro v5 w5 ho hb hg hat; have n0_ := Aside0.mk ((HX.out.alloc _).grown HT0.out hb (Kd.R_alloc HR.out _) hg); have n1_ := Aside0.mk ho; clear HX HR ho hb hg hat ; have HX := n0_; have HR := n1_; clear n0_ n1_; obtain ⟨A6, k6, e_⟩ := Kd.R_slice HR.out; have e7_ : v5 = .slice A6 7 k6 := e_; clear e_; subst e7_; obtain ⟨c0, c1, c2, c3, c4, c5, c6, c7, c8, c9, c10, c11, c12, c13, c14, c15, c16, c17, c18⟩ := HX.out.at_.cells; rw [HSZ.out] at c0 c1 c2 c3 c4 c5 c6 c7 c8 c9 c10 c11 c12 c13 c14 c15 c16 c17 c18; rw [HWA.out] at c12) | ((with_reducible refine gate_builtin (b := .append) (xs := #[.tmp 49, .tmp 50]) rfl ?_); at_builtin; refine Kd.R_append_rows Kd.string (w0 := w) w.heap.size rfl (.tmp 49) (.tmp 50) 61 9 (.string ⟨#[]⟩) 16 rfl Tryd.underlying61 info9 rfl (by decide) (by omega) (.slice A6 7 k6) ([n, S1, (⟨#[62]⟩ : ByteArray), S2, S4 ++ (⟨#[47]⟩ : ByteArray) ++ S3] ++ [(⟨#[104, 105, 103, 104]⟩ : ByteArray), S5]) ([(⟨#[105, 110]⟩ : ByteArray)]) _ _ _ (fun _ => True) (fun _ => False) rfl rfl ?aO ?aR (fun _ _ h => h) (fun _ h => h.elim) (fun _ _ => trivial) ?aB ?aS ?aL ?_; (case aO => exact Kd.R_alloc HR.out _); (case aR => exact (Kd.R_reads' (lit_R _ ([(⟨#[105, 110]⟩ : ByteArray)]) 0 (Nat.zero_le _) (by simp))).2.2); (case aB => exact (HX.out.alloc _).below); (case aS => exact (HX.out.alloc _).below.size); (case aL => simp); intro v7 w7 ho hb hg hat; have n0_ := Aside0.mk ((HX.out.alloc _).grown HT0.out hb (Kd.R_alloc HR.out _) hg); have n1_ := Aside0.mk ho; clear HX HR ho hb hg hat c0 c1 c2 c3 c4 c5 c6 c7 c8 c9 c10 c11 c12 c13 c14 c15 c16 c17 c18; have HX := n0_; have HR := n1_; clear n0_ n1_; obtain ⟨A8, k8, e_⟩ := Kd.R_slice HR.out; have e7_ : v7 = .slice A8 8 k8 := e_; clear e_; subst e7_) | (go_at_call 34; (with_reducible refine (HALL.out _ _ _ (Kd.R_reads' HR.out).2.2 (Kd.R_reads' HR.out).2.1 ?h1 ?h2).mono ?_); (case h1 => simp); (case h2 => exact HSM.out); rintro e w6 ⟨rfl, hb⟩; have n0_ := Aside0.mk (HX.out.on hb); clear HX HR hb; have HX := n0_; clear n0_))
  go_ret
  exact ⟨rfl, HX.out.below⟩
set_option maxHeartbeats 4000000 in
set_option maxRecDepth 100000 in
theorem text_out (w : World) (f : Fr) (hr : Rng f) (h3 : f.kind = 3) (hw : f.wants = false) (n : ByteArray) (a b : Int) (o : Bool) (hn : n.size ≤ 100) (hs : Own.frame_shapes.f f.kind = some (n, true, a, b, o)) (ht : Own.Tabs w) :
    Calls Tryd.prog 12 #[.agg (FC f)] w fun e w' => e = .returned (.string (txt (head5 f n (dgs f.dst) ++ [(⟨#[104, 105, 103, 104]⟩ : ByteArray), etext f.hc f.ha f.hi] ++ [(⟨#[111, 117, 116]⟩ : ByteArray)]))) ∧ Below w.heap.size w w' := by
  have HSH := Aside0.mk fun W : World => shapes_f f.kind W _ _ _ _ _ hs
  have r1 := dgs_size f.src (by have := hr.src; omega)
  have r2 := dgs_size f.dst (by have := hr.dst; omega)
  have r3 := dgs_size f.hop (by have := hr.hop; omega)
  have r4 := etext_size f.ec f.ea f.ei (by have := hr.ec; omega) (by have := hr.ea; omega) (by have := hr.ei; omega)
  have HSRC := Aside0.mk fun W ht => itoa_g f.src hr.src.1 (by have := hr.src; omega) W ht
  have HDST := Aside0.mk fun W ht => itoa_g f.dst hr.dst.1 (by have := hr.dst; omega) W ht
  have HHOP := Aside0.mk fun W ht => itoa_g f.hop hr.hop.1 (by have := hr.hop; omega) W ht
  have HEP := Aside0.mk fun W ht => etext_f W f.ec f.ea f.ei hr.ec hr.ea hr.ei ht
  have HEP2 := Aside0.mk fun W ht => etext_f W f.hc f.ha f.hi hr.hc hr.ha hr.hi ht
  have r5 := etext_size f.hc f.ha f.hi (by have := hr.hc; omega) (by have := hr.ha; omega) (by have := hr.hi; omega)
  have HALL := Aside0.mk (fun c0 d0 => txt_n c0 8 d0 (head5 f n (dgs f.dst) ++ [(⟨#[104, 105, 103, 104]⟩ : ByteArray), etext f.hc f.ha f.hi] ++ [(⟨#[111, 117, 116]⟩ : ByteArray)]) rfl)
  unfold head5 at HALL
  unfold head5
  have i1 : IntKind.i64.wrap f.src = f.src := IntWalk.i64_in f.src (by have := hr.src; omega)
  have i2 : IntKind.i64.wrap f.dst = f.dst := IntWalk.i64_in f.dst (by have := hr.dst; omega)
  have i3 : IntKind.i64.wrap f.hop = f.hop := IntWalk.i64_in f.hop (by have := hr.hop; omega)
  generalize etext f.hc f.ha f.hi = S5 at *
  generalize dgs f.src = S1 at *
  generalize dgs f.dst = S2 at *
  generalize dgs f.hop = S3 at *
  generalize etext f.ec f.ea f.ei = S4 at *
  have HSM := Aside0.mk (show ∀ x ∈ [n, S1, (⟨#[62]⟩ : ByteArray), S2, S4 ++ (⟨#[47]⟩ : ByteArray) ++ S3] ++ [(⟨#[104, 105, 103, 104]⟩ : ByteArray), S5] ++ [(⟨#[111, 117, 116]⟩ : ByteArray)], x.size ≤ 100 from by
    intro x hx
    simp only [List.cons_append, List.nil_append, List.mem_cons, List.not_mem_nil, or_false] at hx
    rcases hx with rfl | rfl | rfl | rfl | rfl | rfl | rfl | rfl
    · exact hn
    · omega
    · decide
    · omega
    · simp only [ByteArray.size_append]
      show _ + 1 + _ ≤ 100
      omega
    · decide
    · omega
    · decide)
  have s1 : (9223372036854775807 < S4.size + 1) = False := eq_false (by omega)
  have s2 : (9223372036854775807 < S4.size + 1 + S3.size) = False := eq_false (by omega)
  have k3 : (f.kind == 3) = true := by rw [h3]; rfl
  have k4 : (f.kind == 4) = false := by rw [h3]; rfl
  have HT := Aside0.mk (Own.tabs_alloc ht (.cells (FC f) 29))
  have HN := Aside0.mk (FAt.new w f)
  have HB := Aside0.mk ((Below.refl w.heap.size w).alloc (Nat.le_refl _) (.cells (FC f) 29))
  have HWA := Aside0.mk hw
  clear hw
  have HT0 := Aside0.mk ht
  clear hs ht hr hn h3
  go_enter Tryd.func12, Tryd.ntmps12
  go_upto_region 1 with (fail)
  generalize w.alloc (.cells (FC f) 29) = W0 at *
  obtain ⟨c0, c1, c2, c3, c4, c5, c6, c7, c8, c9, c10, c11, c12, c13, c14, c15, c16, c17, c18⟩ := HN.out.cells
  go_upto_region 2 with (go_at_call 29; (with_reducible refine (HSH.out _).mono ?_); rintro e w1 ⟨rfl, hb⟩; obtain ⟨W1, hW1, hx⟩ := Tx.new HN.out HT.out HB.out hb n true a b; have HX := Aside0.mk hx; clear HN HB HT hb hx c0 c1 c2 c3 c4 c5 c6 c7 c8 c9 c10 c11 c12 c13 c14 c15 c16 c17 c18)
  clear hW1
  generalize w1.heap.size = X at *
  obtain ⟨c0, c1, c2, c3, c4, c5, c6, c7, c8, c9, c10, c11, c12, c13, c14, c15, c16, c17, c18⟩ := HX.out.at_.cells
  have x1 : W1.cell? ⟨X, 1, none⟩ = some (.bool true) := blk_cell HX.out.sh 1
  go_upto_region 5 with (go_at_call 31; (with_reducible refine (HDST.out _ HX.out.tab).mono ?_); rintro e w2 ⟨rfl, hb⟩; have n0_ := Aside0.mk (HX.out.on hb); clear HX hb c0 c1 c2 c3 c4 c5 c6 c7 c8 c9 c10 c11 c12 c13 c14 c15 c16 c17 c18 x1; have HX := n0_; clear n0_)
  have n0_ := Aside0.mk HX.out.drew
  clear HX
  have HX := n0_
  clear n0_
  generalize hEq : w.heap.size = E at *
  have HSZ := Aside0.mk hEq
  clear hEq
  go_region_held_law (fun w' => w'.cell? ⟨E, 1, none⟩ = some (.int .u8 f.src) ∧ w'.cell? ⟨E, 5, none⟩ = some (.int .u16 f.ec) ∧ w'.cell? ⟨E, 6, none⟩ = some (.int .u8 f.ea) ∧ w'.cell? ⟨E, 7, none⟩ = some (.int .u16 f.ei) ∧ w'.cell? ⟨E, 8, none⟩ = some (.int .u16 f.hop) ∧ w'.cell? ⟨X, 0, none⟩ = some (.string n)) ((rw [← HSZ.out]; first | exact HX.out.five | exact (HX.out.alloc _).five)) (first | (go_at_call 31; (with_reducible refine (HSRC.out _ HX.out.tab).mono ?_); rintro e w3 ⟨rfl, hb⟩; have n0_ := Aside0.mk (HX.out.on hb); clear HX hb; have HX := n0_; clear n0_) | (go_at_call 31; (with_reducible refine (HHOP.out _ HX.out.tab).mono ?_); rintro e w3 ⟨rfl, hb⟩; have n0_ := Aside0.mk (HX.out.on hb); clear HX hb; have HX := n0_; clear n0_) | (go_at_call 32; (with_reducible refine (HEP.out _ HX.out.tab).mono ?_); rintro e w3 ⟨rfl, hb⟩; have n0_ := Aside0.mk (HX.out.on hb); clear HX hb; have HX := n0_; clear n0_))
  have hX := HX.out.alloc (.cells #[.string n, .string S1, .string (⟨#[62]⟩ : ByteArray), .string S2, .string (S4 ++ (⟨#[47]⟩ : ByteArray) ++ S3)] 9)
  have hR := lit_R w3 [n, S1, (⟨#[62]⟩ : ByteArray), S2, S4 ++ (⟨#[47]⟩ : ByteArray) ++ S3] w.heap.size (by have := HX.out.below.size; exact this) (by simp)
  have hR2 : Kd.R Kd.string 9 (w3.alloc (.cells #[.string n, .string S1, .string (⟨#[62]⟩ : ByteArray), .string S2, .string (S4 ++ (⟨#[47]⟩ : ByteArray) ++ S3)] 9)) w.heap.size (fun _ => True) (.slice (some ⟨w3.heap.size, 0, none⟩) 5 5) [n, S1, (⟨#[62]⟩ : ByteArray), S2, S4 ++ (⟨#[47]⟩ : ByteArray) ++ S3] := hR
  clear hR HX
  generalize w3.alloc (.cells #[.string n, .string S1, .string (⟨#[62]⟩ : ByteArray), .string S2, .string (S4 ++ (⟨#[47]⟩ : ByteArray) ++ S3)] 9) = W6 at *
  generalize w3.heap.size = G at *
  have HX := Aside0.mk hX
  clear hX
  have HR := Aside0.mk hR2
  clear hR2
  obtain ⟨c0, c1, c2, c3, c4, c5, c6, c7, c8, c9, c10, c11, c12, c13, c14, c15, c16, c17, c18⟩ := HX.out.at_.cells
  rw [HSZ.out] at c0 c1 c2 c3 c4 c5 c6 c7 c8 c9 c10 c11 c12 c13 c14 c15 c16 c17 c18
  rw [HWA.out] at c12
  go_wp2_with (first | (go_at_call 32; (with_reducible refine (HEP2.out _ HX.out.tab).mono ?_); rintro e w4 ⟨rfl, hb⟩; have n0_ := Aside0.mk (HX.out.on hb); have n1_ := Aside0.mk (Kd.R_below HR.out hb); clear HX HR hb c0 c1 c2 c3 c4 c5 c6 c7 c8 c9 c10 c11 c12 c13 c14 c15 c16 c17 c18; have HX := n0_; have HR := n1_; clear n0_ n1_) | ((with_reducible refine gate_builtin (b := .append) (xs := #[.tmp 41, .tmp 45]) rfl ?_); at_builtin; refine Kd.R_append_rows Kd.string (w0 := w) w.heap.size rfl (.tmp 41) (.tmp 45) 61 9 (.string ⟨#[]⟩) 16 rfl Tryd.underlying61 info9 rfl (by decide) (by omega) (.slice (some ⟨G, 0, none⟩) 5 5) ([n, S1, (⟨#[62]⟩ : ByteArray), S2, S4 ++ (⟨#[47]⟩ : ByteArray) ++ S3]) ([(⟨#[104, 105, 103, 104]⟩ : ByteArray), S5]) _ _ _ (fun _ => True) (fun _ => False) rfl rfl ?aO ?aR (fun _ _ h => h) (fun _ h => h.elim) (fun _ _ => trivial) ?aB ?aS ?aL ?_; (case aO => exact Kd.R_alloc HR.out _); (case aR => exact (Kd.R_reads' (lit_R _ ([(⟨#[104, 105, 103, 104]⟩ : ByteArray), S5]) 0 (Nat.zero_le _) (by simp))).2.2); (case aB => exact (HX.out.alloc _).below); (case aS => exact (HX.out.alloc _).below.size); (case aL => simp); intro v5 w5 ho hb hg hat; have n0_ := Aside0.mk ((HX.out.alloc _).grown HT0.out hb (Kd.R_alloc HR.out _) hg); have n1_ := Aside0.mk ho; clear HX HR ho hb hg hat ; have HX := n0_; have HR := n1_; clear n0_ n1_; obtain ⟨A6, k6, e_⟩ := Kd.R_slice HR.out; have e7_ : v5 = .slice A6 7 k6 := e_; clear e_; subst e7_; obtain ⟨c0, c1, c2, c3, c4, c5, c6, c7, c8, c9, c10, c11, c12, c13, c14, c15, c16, c17, c18⟩ := HX.out.at_.cells; rw [HSZ.out] at c0 c1 c2 c3 c4 c5 c6 c7 c8 c9 c10 c11 c12 c13 c14 c15 c16 c17 c18; rw [HWA.out] at c12) | ((with_reducible refine gate_builtin (b := .append) (xs := #[.tmp 52, .tmp 53]) rfl ?_); at_builtin; refine Kd.R_append_rows Kd.string (w0 := w) w.heap.size rfl (.tmp 52) (.tmp 53) 61 9 (.string ⟨#[]⟩) 16 rfl Tryd.underlying61 info9 rfl (by decide) (by omega) (.slice A6 7 k6) ([n, S1, (⟨#[62]⟩ : ByteArray), S2, S4 ++ (⟨#[47]⟩ : ByteArray) ++ S3] ++ [(⟨#[104, 105, 103, 104]⟩ : ByteArray), S5]) ([(⟨#[111, 117, 116]⟩ : ByteArray)]) _ _ _ (fun _ => True) (fun _ => False) rfl rfl ?aO ?aR (fun _ _ h => h) (fun _ h => h.elim) (fun _ _ => trivial) ?aB ?aS ?aL ?_; (case aO => exact Kd.R_alloc HR.out _); (case aR => exact (Kd.R_reads' (lit_R _ ([(⟨#[111, 117, 116]⟩ : ByteArray)]) 0 (Nat.zero_le _) (by simp))).2.2); (case aB => exact (HX.out.alloc _).below); (case aS => exact (HX.out.alloc _).below.size); (case aL => simp); intro v7 w7 ho hb hg hat; have n0_ := Aside0.mk ((HX.out.alloc _).grown HT0.out hb (Kd.R_alloc HR.out _) hg); have n1_ := Aside0.mk ho; clear HX HR ho hb hg hat c0 c1 c2 c3 c4 c5 c6 c7 c8 c9 c10 c11 c12 c13 c14 c15 c16 c17 c18; have HX := n0_; have HR := n1_; clear n0_ n1_; obtain ⟨A8, k8, e_⟩ := Kd.R_slice HR.out; have e7_ : v7 = .slice A8 8 k8 := e_; clear e_; subst e7_) | (go_at_call 34; (with_reducible refine (HALL.out _ _ _ (Kd.R_reads' HR.out).2.2 (Kd.R_reads' HR.out).2.1 ?h1 ?h2).mono ?_); (case h1 => simp); (case h2 => exact HSM.out); rintro e w6 ⟨rfl, hb⟩; have n0_ := Aside0.mk (HX.out.on hb); clear HX HR hb; have HX := n0_; clear n0_))
  go_ret
  exact ⟨rfl, HX.out.below⟩
end Go.Proofs.YtkcaifpmceoflaaDoor.Frm

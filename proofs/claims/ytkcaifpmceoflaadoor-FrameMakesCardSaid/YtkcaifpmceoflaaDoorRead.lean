/- The walk of frame.read, where the text is as long as its kind wants. Conditions: those that each statement names. -/
import Derived.Test.YtkcaifpmceoflaaDoorFrame0
import Derived.Test.YtkcaifpmceoflaaDoorEyes
namespace Go.Proofs.YtkcaifpmceoflaaDoor.Frm
open Go.RowKit Go.Proofs.YtkcaifpmceoflaaDoorW.PrintWords Go.Proofs.YtkcaifpmceoflaaDoorW.PrintLast Go.Proofs.YtkcaifpmceoflaaDoorW.PrintMore
set_option linter.unusedVariables false
set_option linter.unusedSimpArgs false
def fz : Fr := ⟨0, 0, 0, 0, 0, 0, 0, 0, 0, 0, 0, 0, false, 0, 0, 0, 0, 0, ⟨#[]⟩⟩
def fA (s : ByteArray) : Fr := { fz with kind := nat s 0 1 }
def fB (s : ByteArray) : Fr := { fA s with src := nat s 2 1, sinc := nat s 3 2, dst := nat s 5 1, dinc := nat s 6 2 }
def fC (s : ByteArray) : Fr := { fB s with ec := nat s 8 2, ea := nat s 10 1, ei := nat s 11 2 }
def fD (s : ByteArray) : Fr := { fC s with hop := nat s 13 2 }
def fS (s : ByteArray) : Fr := { fD s with hc := nat s 15 2, ha := nat s 17 1, hi := nat s 18 2, wants := nat s 20 1 == 1 }
def fT (s : ByteArray) : Fr := { fD s with blk := nat s 15 1, vinc := nat s 16 2, vseq := nat s 18 4, part := nat s 22 1, parts := nat s 23 1, bytes := s.extract 24 s.size }
structure Rd (w0 w : World) (R g Fb : Nat) (s : ByteArray) (p : Nat) (f : Fr) : Prop where
  eye : Eye w g s p
  fr : FAt w Fb f
  res : FAt w R fz
  below : Below w0.heap.size w0 w
structure Apart (w0 : World) (R g Fb : Nat) : Prop where
  a : R ≠ g
  b : Fb ≠ g
  c : R ≠ Fb
  d : w0.heap.size ≤ R
  e : w0.heap.size ≤ g
  f : w0.heap.size ≤ Fb
theorem Rd.step {w0 w w' : World} {R g Fb p p' : Nat} {s : ByteArray} {f : Fr} (h : Rd w0 w R g Fb s p f) (n : Apart w0 R g Fb) (hT : Turn g w w') (he : Eye w' g s p') : Rd w0 w' R g Fb s p' f :=
  ⟨he, (hT.block Fb h.fr.lt n.b).trans h.fr, (hT.block R h.res.lt n.a).trans h.res, h.below.trans (hT.below n.e h.below.size)⟩
theorem Rd.put {w0 w : World} {R g Fb p : Nat} {s : ByteArray} {f : Fr} (h : Rd w0 w R g Fb s p f) (n : Apart w0 R g Fb) (j : Nat) (u : Value) (f' : Fr) (e : (FC f).setIfInBounds j u = FC f') : Rd w0 (w.setCell ⟨Fb, j, none⟩ u) R g Fb s p f' :=
  ⟨eye_over h.eye n.b j u, by unfold FAt; rw [← e]; exact set_block h.fr, (Below.heap_setCell _ _ _ _ n.c).trans h.res, h.below.setCell n.f u⟩
theorem rd_new (w : World) : ∃ W0, w.alloc (.cells #[.int .i64 0, .int .u8 0, .int .u8 0, .int .u16 0, .int .u16 0, .int .u16 0, .int .u8 0, .int .u16 0, .int .u16 0, .int .u16 0, .int .u8 0, .int .u16 0, .bool false, .int .u8 0, .int .u16 0, .int .u32 0, .int .u8 0, .int .u8 0, .string ⟨#[]⟩] 29) = W0 ∧ FAt W0 w.heap.size fz ∧ Below w.heap.size w W0 :=
  ⟨_, rfl, FAt.new w fz, (Below.refl w.heap.size w).alloc (Nat.le_refl _) _⟩
theorem rd_store {w0 w : World} {R g : Nat} {s : ByteArray} {p : Nat} (he : Eye w g s p) (hr : FAt w R fz) (hb : Below w0.heap.size w0 w) :
    ∃ W, (w.alloc (.cells #[.int .i64 0, .int .u8 0, .int .u8 0, .int .u16 0, .int .u16 0, .int .u16 0, .int .u8 0, .int .u16 0, .int .u16 0, .int .u16 0, .int .u8 0, .int .u16 0, .bool false, .int .u8 0, .int .u16 0, .int .u32 0, .int .u8 0, .int .u8 0, .string ⟨#[]⟩] 29)).setRow w.heap.size (FC (fA s)) = W ∧ (w.alloc (.cells #[.int .i64 0, .int .u8 0, .int .u8 0, .int .u16 0, .int .u16 0, .int .u16 0, .int .u8 0, .int .u16 0, .int .u16 0, .int .u16 0, .int .u8 0, .int .u16 0, .bool false, .int .u8 0, .int .u16 0, .int .u32 0, .int .u8 0, .int .u8 0, .string ⟨#[]⟩] 29)).heap[w.heap.size]? = some (.cells #[.int .i64 0, .int .u8 0, .int .u8 0, .int .u16 0, .int .u16 0, .int .u16 0, .int .u8 0, .int .u16 0, .int .u16 0, .int .u16 0, .int .u8 0, .int .u16 0, .bool false, .int .u8 0, .int .u16 0, .int .u32 0, .int .u8 0, .int .u8 0, .string ⟨#[]⟩] 29 (0, 0)) ∧ Rd w0 W R g w.heap.size s p (fA s) := by
  have h0 : (w.alloc (.cells #[.int .i64 0, .int .u8 0, .int .u8 0, .int .u16 0, .int .u16 0, .int .u16 0, .int .u8 0, .int .u16 0, .int .u16 0, .int .u16 0, .int .u8 0, .int .u16 0, .bool false, .int .u8 0, .int .u16 0, .int .u32 0, .int .u8 0, .int .u8 0, .string ⟨#[]⟩] 29)).heap[w.heap.size]? = some (.cells #[.int .i64 0, .int .u8 0, .int .u8 0, .int .u16 0, .int .u16 0, .int .u16 0, .int .u8 0, .int .u16 0, .int .u16 0, .int .u16 0, .int .u8 0, .int .u16 0, .bool false, .int .u8 0, .int .u16 0, .int .u32 0, .int .u8 0, .int .u8 0, .string ⟨#[]⟩] 29 (0, 0)) := FAt.new w fz
  refine ⟨_, rfl, h0, ⟨?_, ?_, ?_, ?_⟩⟩
  · exact (setRow_other _ _ _ _ (Nat.ne_of_lt (lt_of_block he))).trans (old_alloc w _ he)
  · exact setRow_heap _ _ _ _ _ _ h0
  · exact (setRow_other _ _ _ _ (Nat.ne_of_lt hr.lt)).trans (old_alloc w _ hr)
  · refine (hb.alloc hb.size _).trans ⟨rfl, rfl, rfl, ?_, fun k hk => setRow_other _ _ _ _ (by have := hb.size; omega)⟩
    rw [setRow_size]
    exact Nat.le_refl _
theorem read_end {w : World} {R : Nat} {f : Fr} (h : FAt w R fz) (b : Bool) (tmps : Array Value) (h2 : tmps.getD 2 undef = .pointer (some ⟨R, 0, none⟩)) (h3 : tmps.getD 3 undef = .bool b) :
    (results Tryd.f38 tmps).run Tryd.prog (w.setRow R (FC f)) = .ok (.tuple #[.agg (FC f), .bool b]) (w.setRow R (FC f)) := by
  have h2' : tmps[2]?.getD undef = .pointer (some ⟨R, 0, none⟩) := by simpa using h2
  have h3' : tmps[3]?.getD undef = .bool b := by simpa using h3
  have hl := run_loadVar_row (P := Tryd.prog) (w.setRow R (FC f)) R 29 29 (FC f) (0, 0) _ (setRow_heap _ _ _ _ _ _ h) Tryd.underlying29 rfl (by kernel_rfl)
  simp [results, Tryd.results38, h2', h3', asAddr, hl]
theorem Rd.last {w0 w : World} {R g Fb p : Nat} {s : ByteArray} {f : Fr} (h : Rd w0 w R g Fb s p f) (n : Apart w0 R g Fb) (cs : Array Value) : Below w0.heap.size w0 (w.setRow R cs) :=
  h.below.trans ⟨rfl, rfl, rfl, by rw [setRow_size]; exact Nat.le_refl _, fun k hk => setRow_other _ _ _ _ (by have := n.d; omega)⟩
theorem fc_one (f : Fr) : (FC f).all (·.oneCell') = true := by kernel_rfl
def rdf (s : ByteArray) : Fr := if nat s 0 1 = 3 then fS s else if nat s 0 1 = 4 then fT s else fD s
def rdb (s : ByteArray) : Bool := if nat s 0 1 = 3 then decide (nat s 20 1 < 2) else true
theorem fr_built (s : ByteArray) : Tryd.prog.built 29 [(0, .int .i64 (nat s 0 1))] = some (FC (fA s)) := by kernel_rfl
theorem fr_one (s : ByteArray) : (FC (fA s)).all (·.oneCell') = true := by kernel_rfl
theorem eye_rest (w : World) (g : Nat) (s : ByteArray) (p m : Nat) (h : Eye w g s p) (hm : p + m = s.size) (hs : s.size ≤ 1000000) :
    Calls Tryd.prog 54 #[.pointer (some ⟨g, 0, none⟩), .int .i64 (m : Int)] w fun e w' => e = .returned (.string (s.extract p s.size)) ∧ Eye w' g s s.size ∧ Turn g w w' := by
  have h2 := eye_Take w g s p m h (by omega) hs
  rw [hm] at h2
  exact h2
set_option maxRecDepth 100000 in
set_option maxHeartbeats 4000000 in
theorem read_f (w : World) (s : ByteArray) (hs : 15 ≤ s.size ∧ s.size ≤ 1000000) (h3 : nat s 0 1 = 3 → 21 ≤ s.size) (h4 : nat s 0 1 = 4 → 24 ≤ s.size) :
    Calls Tryd.prog 38 #[.string s] w fun e w' => e = .returned (.tuple #[.agg (FC (rdf s)), .bool (rdb s)]) ∧ Below w.heap.size w w' := by
  have HS := Aside0.mk hs
  have H34 := Aside0.mk (And.intro h3 h4)
  obtain ⟨W0, hW0, hN, hB⟩ := rd_new w
  have HN := Aside0.mk hN
  have HB := Aside0.mk hB
  clear hs h3 h4 hN hB
  go_enter Tryd.func38, Tryd.ntmps38
  go_upto_region 1 with (fail)
  try rw [hW0]
  clear hW0
  have HRL := Aside0.mk HN.out.lt
  generalize hR : w.heap.size = R at *
  have HSZ := Aside0.mk hR
  clear hR
  have z1 := (nat_rng s 0 1).1
  have z2 : nat s 0 1 < 256 := (nat_rng s 0 1).2
  go_upto_region 3 with (first | (go_at_call 49; (with_reducible refine (eye_new _ s).mono ?_); rintro e w1 ⟨g, rfl, hg1, hg2, he, hb⟩; have HE := Aside0.mk he; have HG := Aside0.mk (show R < g ∧ g < w1.heap.size from ⟨Nat.lt_of_lt_of_le HRL.out hg1, hg2⟩); have n0_ := Aside0.mk (HN.out.on hb HRL.out); have n1_ := Aside0.mk (HB.out.trans (hb.mono (Nat.le_of_lt HRL.out))); clear HN HB he hg1 hg2 hb; have HN := n0_; have HB := n1_; clear n0_ n1_) | (go_at_call 50; (with_reducible refine (eye_Byte _ g s 0 HE.out (by have := HS.out; omega) HS.out.2).mono ?_); rintro e w2 ⟨rfl, he, hT⟩; have hz := hT.size; obtain ⟨W2, hW2, hlk, hrd⟩ := rd_store (w0 := w) (R := R) he ((hT.block R HN.out.lt (by have := HG.out; omega)).trans HN.out) (by rw [HSZ.out]; exact HB.out.trans (hT.below (by have := HG.out; omega) (by have := HG.out; omega))); have HW := Aside0.mk hW2; have HLK := Aside0.mk hlk; have HR := Aside0.mk hrd; have HA := Aside0.mk (show Apart w R g w2.heap.size by have h1 := HG.out; have h2 := HSZ.out; have h3 := HRL.out; exact ⟨by omega, by omega, by omega, by omega, by omega, by omega⟩); clear HN HB HE he hT hz hW2 hlk hrd) | ((with_reducible refine gate_store (t := 29) (p := 5) rfl ?_); refine wpList_store_row rfl 29 (.tmp 5) (.tmp 12) rfl _ (FC (fA s)) rfl rfl 29 _ HLK.out (by kernel_rfl) rfl (fr_one s) ?_; refine (congrArg (fun W => wpList Tryd.prog _ _ _ _ W) HW.out).mpr ?_; clear HW HLK))
  have n0_ := Aside0.mk (show Rd w W2 R g w2.heap.size s 1 (fA s) from HR.out)
  clear HR
  have HR := n0_
  clear n0_
  generalize w2.heap.size = Fb at *
  go_upto_region 5 with (first | (go_at_call 50; (with_reducible refine (eye_Byte _ g s 1 HR.out.eye (by have := HS.out; omega) HS.out.2).mono ?_); rintro e w1 ⟨rfl, he0, hT⟩; have he : Eye w1 g s 2 := he0; have n0_ := Aside0.mk (HR.out.step HA.out hT he); clear HR he he0 hT; have HR := n0_; clear n0_) | (go_at_call 50; (with_reducible refine (eye_Byte _ g s 2 HR.out.eye (by have := HS.out; omega) HS.out.2).mono ?_); rintro e w1 ⟨rfl, he0, hT⟩; have he : Eye w1 g s 3 := he0; have n0_ := Aside0.mk (HR.out.step HA.out hT he); clear HR he he0 hT; have HR := n0_; clear n0_) | (go_at_call 51; (with_reducible refine (eye_Two _ g s 3 HR.out.eye (by have := HS.out; omega) HS.out.2).mono ?_); rintro e w1 ⟨rfl, he0, hT⟩; have he : Eye w1 g s 5 := he0; have n0_ := Aside0.mk (HR.out.step HA.out hT he); clear HR he he0 hT; have HR := n0_; clear n0_) | (go_at_call 50; (with_reducible refine (eye_Byte _ g s 5 HR.out.eye (by have := HS.out; omega) HS.out.2).mono ?_); rintro e w1 ⟨rfl, he0, hT⟩; have he : Eye w1 g s 6 := he0; have n0_ := Aside0.mk (HR.out.step HA.out hT he); clear HR he he0 hT; have HR := n0_; clear n0_) | (go_at_call 51; (with_reducible refine (eye_Two _ g s 6 HR.out.eye (by have := HS.out; omega) HS.out.2).mono ?_); rintro e w1 ⟨rfl, he0, hT⟩; have he : Eye w1 g s 8 := he0; have n0_ := Aside0.mk (HR.out.step HA.out hT he); clear HR he he0 hT; have HR := n0_; clear n0_; obtain ⟨c0, c1, c2, c3, c4, c5, c6, c7, c8, c9, c10, c11, c12, c13, c14, c15, c16, c17, c18⟩ := HR.out.fr.cells; have hfr := HR.out.fr.frees))
  have n0_ := Aside0.mk ((((((((HR.out).put HA.out 1 (.int .u8 (nat s 2 1)) ({ fA s with src := nat s 2 1 }) rfl)).put HA.out 3 (.int .u16 (nat s 3 2)) ({ fA s with src := nat s 2 1, sinc := nat s 3 2 }) rfl)).put HA.out 2 (.int .u8 (nat s 5 1)) ({ fA s with src := nat s 2 1, sinc := nat s 3 2, dst := nat s 5 1 }) rfl)).put HA.out 4 (.int .u16 (nat s 6 2)) (fB s) rfl)
  clear HR hfr c0 c1 c2 c3 c4 c5 c6 c7 c8 c9 c10 c11 c12 c13 c14 c15 c16 c17 c18
  have HR := n0_
  clear n0_
  go_upto_region 6 with (first | (go_at_call 52; (with_reducible refine (eye_get _ g s 8 HR.out.eye (by have := HS.out; omega) HS.out.2).mono ?_); rintro e w1 ⟨rfl, he0, hT⟩; have he : Eye w1 g s 13 := he0; have n0_ := Aside0.mk (HR.out.step HA.out hT he); clear HR he he0 hT; have HR := n0_; clear n0_; obtain ⟨c0, c1, c2, c3, c4, c5, c6, c7, c8, c9, c10, c11, c12, c13, c14, c15, c16, c17, c18⟩ := HR.out.fr.cells; have hfr := HR.out.fr.frees))
  have n0_ := Aside0.mk ((((((HR.out).put HA.out 5 (.int .u16 (nat s 8 2)) ({ fB s with ec := nat s 8 2 }) rfl)).put HA.out 6 (.int .u8 (nat s 10 1)) ({ fB s with ec := nat s 8 2, ea := nat s 10 1 }) rfl)).put HA.out 7 (.int .u16 (nat s 11 2)) (fC s) rfl)
  clear HR hfr c0 c1 c2 c3 c4 c5 c6 c7 c8 c9 c10 c11 c12 c13 c14 c15 c16 c17 c18
  have HR := n0_
  clear n0_
  go_upto_region 7 with (first | (go_at_call 51; (with_reducible refine (eye_Two _ g s 13 HR.out.eye (by have := HS.out; omega) HS.out.2).mono ?_); rintro e w1 ⟨rfl, he0, hT⟩; have he : Eye w1 g s 15 := he0; have n0_ := Aside0.mk (HR.out.step HA.out hT he); clear HR he he0 hT; have HR := n0_; clear n0_; obtain ⟨c0, c1, c2, c3, c4, c5, c6, c7, c8, c9, c10, c11, c12, c13, c14, c15, c16, c17, c18⟩ := HR.out.fr.cells; have hfr := HR.out.fr.frees))
  have n0_ := Aside0.mk ((HR.out).put HA.out 8 (.int .u16 (nat s 13 2)) (fD s) rfl)
  clear HR hfr c0 c1 c2 c3 c4 c5 c6 c7 c8 c9 c10 c11 c12 c13 c14 c15 c16 c17 c18
  have HR := n0_
  clear n0_
  obtain ⟨c0, _⟩ := HR.out.fr.cells
  by_cases k3 : nat s 0 1 = 3
  · rw [show (fD s).kind = nat s 0 1 from rfl, k3] at c0
    have HSZ3 := Aside0.mk (H34.out.1 k3)
    have HF := Aside0.mk (show rdf s = fS s from if_pos k3)
    have HBB := Aside0.mk (show rdb s = decide (nat s 20 1 < 2) from if_pos k3)
    clear k3
    go_upto_region 11 with (first | (go_at_call 52; (with_reducible refine (eye_get _ g s 15 HR.out.eye (by have := HSZ3.out; omega) HS.out.2).mono ?_); rintro e w1 ⟨rfl, he0, hT⟩; have he : Eye w1 g s 20 := he0; have n0_ := Aside0.mk (HR.out.step HA.out hT he); clear c0 HR he he0 hT; have HR := n0_; clear n0_; obtain ⟨c0, c1, c2, c3, c4, c5, c6, c7, c8, c9, c10, c11, c12, c13, c14, c15, c16, c17, c18⟩ := HR.out.fr.cells; have hfr := HR.out.fr.frees))
    have n0_ := Aside0.mk ((((((HR.out).put HA.out 9 (.int .u16 (nat s 15 2)) ({ fD s with hc := nat s 15 2 }) rfl)).put HA.out 10 (.int .u8 (nat s 17 1)) ({ fD s with hc := nat s 15 2, ha := nat s 17 1 }) rfl)).put HA.out 11 (.int .u16 (nat s 18 2)) ({ fD s with hc := nat s 15 2, ha := nat s 17 1, hi := nat s 18 2 }) rfl)
    clear HR hfr c0 c1 c2 c3 c4 c5 c6 c7 c8 c9 c10 c11 c12 c13 c14 c15 c16 c17 c18
    have HR := n0_
    clear n0_
    go_upto_region 12 with (first | (go_at_call 50; (with_reducible refine (eye_Byte _ g s 20 HR.out.eye (by have := HSZ3.out; omega) HS.out.2).mono ?_); rintro e w1 ⟨rfl, he0, hT⟩; have he : Eye w1 g s 21 := he0; have n0_ := Aside0.mk (HR.out.step HA.out hT he); clear HR he he0 hT; have HR := n0_; clear n0_; obtain ⟨c0, c1, c2, c3, c4, c5, c6, c7, c8, c9, c10, c11, c12, c13, c14, c15, c16, c17, c18⟩ := HR.out.fr.cells; have hfr := HR.out.fr.frees))
    go_upto_region 18 with (fail)
    have n0_ := Aside0.mk ((HR.out).put HA.out 12 (.bool (nat s 20 1 == 1)) (fS s) rfl)
    clear HR hfr c0 c1 c2 c3 c4 c5 c6 c7 c8 c9 c10 c11 c12 c13 c14 c15 c16 c17 c18
    have HR := n0_
    clear n0_
    go_wp2_with (first | ((with_reducible refine gate_dst (N := 67) rfl ?_); refine wpList_load_row rfl 29 (.tmp 5) rfl _ rfl 29 (FC (fS s)) (0, 0) _ HR.out.fr Tryd.underlying29 rfl (by kernel_rfl) ?_) | ((with_reducible refine gate_store (t := 29) (p := 2) rfl ?_); refine wpList_store_row rfl 29 (.tmp 2) (.tmp 67) rfl R (FC (fS s)) rfl rfl 29 (FC fz) HR.out.res (by kernel_rfl) rfl (fc_one _) ?_))
    exact bodyPost_ret (read_end HR.out.res (decide (nat s 20 1 < 2)) _ rfl rfl) rfl ⟨by rw [HF.out, HBB.out], HR.out.last HA.out _⟩
  · rw [show (fD s).kind = nat s 0 1 from rfl] at c0
    have b3 : (nat s 0 1 == 3) = false := beq_eq_false_iff_ne.2 k3
    by_cases k4 : nat s 0 1 = 4
    · rw [k4] at c0
      obtain ⟨m, hm⟩ : ∃ m, 24 + m = s.size := ⟨s.size - 24, by have := H34.out.2 k4; omega⟩
      have HSZ3 := Aside0.mk hm
      have HF := Aside0.mk (show rdf s = fT s by unfold rdf; rw [if_neg k3, if_pos k4])
      have HBB := Aside0.mk (show rdb s = true from if_neg k3)
      clear k3 k4 b3 hm
      go_upto_region 15 with (first | (go_at_call 50; (with_reducible refine (eye_Byte _ g s 15 HR.out.eye (by have := HSZ3.out; omega) HS.out.2).mono ?_); rintro e w1 ⟨rfl, he0, hT⟩; have he : Eye w1 g s 16 := he0; have n0_ := Aside0.mk (HR.out.step HA.out hT he); clear c0 HR he he0 hT; have HR := n0_; clear n0_; obtain ⟨c0, c1, c2, c3, c4, c5, c6, c7, c8, c9, c10, c11, c12, c13, c14, c15, c16, c17, c18⟩ := HR.out.fr.cells; have hfr := HR.out.fr.frees))
      have n0_ := Aside0.mk ((HR.out).put HA.out 13 (.int .u8 (nat s 15 1)) ({ fD s with blk := nat s 15 1 }) rfl)
      clear HR hfr c0 c1 c2 c3 c4 c5 c6 c7 c8 c9 c10 c11 c12 c13 c14 c15 c16 c17 c18
      have HR := n0_
      clear n0_
      go_upto_region 16 with (first | (go_at_call 51; (with_reducible refine (eye_Two _ g s 16 HR.out.eye (by have := HSZ3.out; omega) HS.out.2).mono ?_); rintro e w1 ⟨rfl, he0, hT⟩; have he : Eye w1 g s 18 := he0; have n0_ := Aside0.mk (HR.out.step HA.out hT he); clear HR he he0 hT; have HR := n0_; clear n0_) | (go_at_call 53; (with_reducible refine (eye_Four _ g s 18 HR.out.eye (by have := HSZ3.out; omega) HS.out.2).mono ?_); rintro e w1 ⟨rfl, he0, hT⟩; have he : Eye w1 g s 22 := he0; have n0_ := Aside0.mk (HR.out.step HA.out hT he); clear HR he he0 hT; have HR := n0_; clear n0_; obtain ⟨c0, c1, c2, c3, c4, c5, c6, c7, c8, c9, c10, c11, c12, c13, c14, c15, c16, c17, c18⟩ := HR.out.fr.cells; have hfr := HR.out.fr.frees))
      have n0_ := Aside0.mk ((((HR.out).put HA.out 14 (.int .u16 (nat s 16 2)) ({ fD s with blk := nat s 15 1, vinc := nat s 16 2 }) rfl)).put HA.out 15 (.int .u32 (nat s 18 4)) ({ fD s with blk := nat s 15 1, vinc := nat s 16 2, vseq := nat s 18 4 }) rfl)
      clear HR hfr c0 c1 c2 c3 c4 c5 c6 c7 c8 c9 c10 c11 c12 c13 c14 c15 c16 c17 c18
      have HR := n0_
      clear n0_
      go_upto_region 17 with (first | (go_at_call 50; (with_reducible refine (eye_Byte _ g s 22 HR.out.eye (by have := HSZ3.out; omega) HS.out.2).mono ?_); rintro e w1 ⟨rfl, he0, hT⟩; have he : Eye w1 g s 23 := he0; have n0_ := Aside0.mk (HR.out.step HA.out hT he); clear HR he he0 hT; have HR := n0_; clear n0_) | (go_at_call 50; (with_reducible refine (eye_Byte _ g s 23 HR.out.eye (by have := HSZ3.out; omega) HS.out.2).mono ?_); rintro e w1 ⟨rfl, he0, hT⟩; have he : Eye w1 g s 24 := he0; have n0_ := Aside0.mk (HR.out.step HA.out hT he); clear HR he he0 hT; have HR := n0_; clear n0_; obtain ⟨c0, c1, c2, c3, c4, c5, c6, c7, c8, c9, c10, c11, c12, c13, c14, c15, c16, c17, c18⟩ := HR.out.fr.cells; have hfr := HR.out.fr.frees))
      have n0_ := Aside0.mk ((((HR.out).put HA.out 16 (.int .u8 (nat s 22 1)) ({ fD s with blk := nat s 15 1, vinc := nat s 16 2, vseq := nat s 18 4, part := nat s 22 1 }) rfl)).put HA.out 17 (.int .u8 (nat s 23 1)) ({ fD s with blk := nat s 15 1, vinc := nat s 16 2, vseq := nat s 18 4, part := nat s 22 1, parts := nat s 23 1 }) rfl)
      clear HR hfr c0 c1 c2 c3 c4 c5 c6 c7 c8 c9 c10 c11 c12 c13 c14 c15 c16 c17 c18
      have HR := n0_
      clear n0_
      go_upto_region 18 with (first | (go_at_call 55; (with_reducible refine (eye_Left _ g s 24 m HR.out.eye HSZ3.out HS.out.2).mono ?_); rintro e w1 ⟨rfl, he0, hT⟩; have he : Eye w1 g s 24 := he0; have n0_ := Aside0.mk (HR.out.step HA.out hT he); clear HR he he0 hT; have HR := n0_; clear n0_) | (go_at_call 54; (with_reducible refine (eye_rest _ g s 24 m HR.out.eye HSZ3.out HS.out.2).mono ?_); rintro e w1 ⟨rfl, he, hT⟩; have n0_ := Aside0.mk (HR.out.step HA.out hT he); clear HR he hT; have HR := n0_; clear n0_; obtain ⟨c0, c1, c2, c3, c4, c5, c6, c7, c8, c9, c10, c11, c12, c13, c14, c15, c16, c17, c18⟩ := HR.out.fr.cells; have hfr := HR.out.fr.frees))
      have n0_ := Aside0.mk ((HR.out).put HA.out 18 (.string (s.extract 24 s.size)) (fT s) rfl)
      clear HR hfr c0 c1 c2 c3 c4 c5 c6 c7 c8 c9 c10 c11 c12 c13 c14 c15 c16 c17 c18
      have HR := n0_
      clear n0_
      go_wp2_with (first | ((with_reducible refine gate_dst (N := 67) rfl ?_); refine wpList_load_row rfl 29 (.tmp 5) rfl _ rfl 29 (FC (fT s)) (0, 0) _ HR.out.fr Tryd.underlying29 rfl (by kernel_rfl) ?_) | ((with_reducible refine gate_store (t := 29) (p := 2) rfl ?_); refine wpList_store_row rfl 29 (.tmp 2) (.tmp 67) rfl R (FC (fT s)) rfl rfl 29 (FC fz) HR.out.res (by kernel_rfl) rfl (fc_one _) ?_))
      exact bodyPost_ret (read_end HR.out.res true _ rfl rfl) rfl ⟨by rw [HF.out, HBB.out], HR.out.last HA.out _⟩
    · have b4 : (nat s 0 1 == 4) = false := beq_eq_false_iff_ne.2 k4
      have HF := Aside0.mk (show rdf s = fD s by unfold rdf; rw [if_neg k3, if_neg k4])
      have HBB := Aside0.mk (show rdb s = true from if_neg k3)
      clear k3 k4
      go_upto_region 18 with (fail)
      go_wp2_with (first | ((with_reducible refine gate_dst (N := 67) rfl ?_); refine wpList_load_row rfl 29 (.tmp 5) rfl _ rfl 29 (FC (fD s)) (0, 0) _ HR.out.fr Tryd.underlying29 rfl (by kernel_rfl) ?_) | ((with_reducible refine gate_store (t := 29) (p := 2) rfl ?_); refine wpList_store_row rfl 29 (.tmp 2) (.tmp 67) rfl R (FC (fD s)) rfl rfl 29 (FC fz) HR.out.res (by kernel_rfl) rfl (fc_one _) ?_))
      exact bodyPost_ret (read_end HR.out.res true _ rfl rfl) rfl ⟨by rw [HF.out, HBB.out], HR.out.last HA.out _⟩
end Go.Proofs.YtkcaifpmceoflaaDoor.Frm

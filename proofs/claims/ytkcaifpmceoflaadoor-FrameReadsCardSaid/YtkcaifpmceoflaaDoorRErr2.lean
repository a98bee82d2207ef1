/- The walk of the document's Error, all cases. Conditions: those that each statement names. -/
import Derived.Test.YtkcaifpmceoflaaDoorRFrame
namespace Go.Proofs.YtkcaifpmceoflaaDoor.Frm
open Go.RowKit Go.Proofs.YtkcaifpmceoflaaDoorW.PrintWords Go.Proofs.YtkcaifpmceoflaaDoorW.PrintLast Go.Proofs.YtkcaifpmceoflaaDoorW.PrintMore
set_option linter.unusedVariables false
set_option linter.unusedSimpArgs false
set_option maxHeartbeats 1000000 in
set_option maxRecDepth 100000 in
theorem err_byte (w : World) (s : ByteArray) (h : isLen s) (hc : crc s = 0#16) (hk : nat s 0 1 = 3 ∧ s.size = 23) (hb20 : 1 < nat s 20 1) :
    Calls Tryd.prog 17 #[.string s] w fun e w' => e = .returned (.int .i64 3) ∧ Below w.heap.size w w' := by
  have z1 := (nat_rng s 1 1).1
  have z2 : nat s 1 1 < 256 := (nat_rng s 1 1).2
  have z3 := (nat_rng s 0 1).1
  have z4 : nat s 0 1 < 256 := (nat_rng s 0 1).2
  have h0 := h
  unfold isLen at h
  have d1 : decide ((s.size : Int) < 17) = false := decide_eq_false (by omega)
  have hx := idx1 s (by omega)
  have hx0 := idx0 s (by omega)
  have d3 : ((s.size : Int) != nat s 1 1) = false := bne_eq_false_iff_eq.2 h.2.2.symm
  have hsl : ∀ W : World, (Instr.slice 9 (.string s) none (some (.int .i64 ((s.size : Int) - 2))) none).run Tryd.prog W = .ok (.string (s.extract 0 (s.size - 2))) W := fun W => by
    rw [run_slice_string_to_if W 9 s .i64 ((s.size : Int) - 2) Tryd.underlying9, if_pos (by omega), show ((s.size : Int) - 2).toNat = s.size - 2 by omega]
  have HS := Aside0.mk fun W : World => rsealed_f W (s.extract 0 (s.size - 2)) (by rw [ByteArray.size_extract]; omega)
  rw [(sealed_iff s (by omega)).2 hc] at HS
  have y1 : 17 ≤ (s.size : Int) := by omega
  have y2 : (s.size : Int) ≤ 255 := by omega
  have hne2 : (s.toList == s.toList) = true := beq_self_eq_true _
  have hne3 : (s.data.toList == s.data.toList) = true := beq_self_eq_true _
  have k1 : decide (nat s 0 1 < 1) = false := decide_eq_false (by omega)
  have k2 : decide (5 < nat s 0 1) = false := decide_eq_false (by omega)
  have k3 : (nat s 0 1 == 4) = false := beq_eq_false_iff_ne.2 (by omega)
  have k4 : (nat s 0 1 == 3) = true := beq_iff_eq.2 hk.1
  have k5 : ((s.size : Int) != 23) = false := bne_eq_false_iff_eq.2 (by omega)
  have k6 : (nat s 0 1 != 3) = false := bne_eq_false_iff_eq.2 hk.1
  have x20 := idxi s 20 20 (by omega) rfl
  have k7 : decide (1 < nat s 20 1) = true := decide_eq_true hb20
  clear hb20
  generalize s.extract 0 (s.size - 2) = x at *
  clear h h0 hc hk
  go_enter Tryd.func17, Tryd.ntmps17
  go_wp2_with (first | (go_at_call 19; (with_reducible refine (HS.out _).mono ?_); rintro e w1 ⟨rfl, hb⟩; have HB1 := Aside0.mk hb; clear hb))
  all_goals go_ret
  all_goals exact ⟨rfl, HB1.out⟩
set_option maxHeartbeats 1000000 in
set_option maxRecDepth 100000 in
theorem err_3ok (w : World) (s : ByteArray) (h : isLen s) (hc : crc s = 0#16) (hk : nat s 0 1 = 3 ∧ s.size = 23) (hb20 : ¬ 1 < nat s 20 1) (hr : right (rdf (ahead s)) = true) :
    Calls Tryd.prog 17 #[.string s] w fun e w' => e = .returned (.int .i64 0) ∧ Below w.heap.size w w' := by
  have z1 := (nat_rng s 1 1).1
  have z2 : nat s 1 1 < 256 := (nat_rng s 1 1).2
  have z3 := (nat_rng s 0 1).1
  have z4 : nat s 0 1 < 256 := (nat_rng s 0 1).2
  have h0 := h
  unfold isLen at h
  have d1 : decide ((s.size : Int) < 17) = false := decide_eq_false (by omega)
  have hx := idx1 s (by omega)
  have hx0 := idx0 s (by omega)
  have d3 : ((s.size : Int) != nat s 1 1) = false := bne_eq_false_iff_eq.2 h.2.2.symm
  have hsl : ∀ W : World, (Instr.slice 9 (.string s) none (some (.int .i64 ((s.size : Int) - 2))) none).run Tryd.prog W = .ok (.string (s.extract 0 (s.size - 2))) W := fun W => by
    rw [run_slice_string_to_if W 9 s .i64 ((s.size : Int) - 2) Tryd.underlying9, if_pos (by omega), show ((s.size : Int) - 2).toNat = s.size - 2 by omega]
  have HS := Aside0.mk fun W : World => rsealed_f W (s.extract 0 (s.size - 2)) (by rw [ByteArray.size_extract]; omega)
  rw [(sealed_iff s (by omega)).2 hc] at HS
  have y1 : 17 ≤ (s.size : Int) := by omega
  have y2 : (s.size : Int) ≤ 255 := by omega
  have hne2 : (s.toList == s.toList) = true := beq_self_eq_true _
  have hne3 : (s.data.toList == s.data.toList) = true := beq_self_eq_true _
  have k1 : decide (nat s 0 1 < 1) = false := decide_eq_false (by omega)
  have k2 : decide (5 < nat s 0 1) = false := decide_eq_false (by omega)
  have k3 : (nat s 0 1 == 4) = false := beq_eq_false_iff_ne.2 (by omega)
  have k4 : (nat s 0 1 == 3) = true := beq_iff_eq.2 hk.1
  have k5 : ((s.size : Int) != 23) = false := bne_eq_false_iff_eq.2 (by omega)
  have k6 : (nat s 0 1 != 3) = false := bne_eq_false_iff_eq.2 hk.1
  have x20 := idxi s 20 20 (by omega) rfl
  have k7 : decide (1 < nat s 20 1) = false := decide_eq_false hb20
  clear hb20
  have HF := Aside0.mk fun W : World => rframe_f W s h0 (by unfold okSize; omega)
  have HR := Aside0.mk fun W : World => rright_f W (rdf (ahead s)) (rdf_rng _)
  rw [hr] at HR
  generalize rdf (ahead s) = fr at *
  clear hr
  generalize s.extract 0 (s.size - 2) = x at *
  clear h h0 hc hk
  go_enter Tryd.func17, Tryd.ntmps17
  go_wp2_with (first | (go_at_call 19; (with_reducible refine (HS.out _).mono ?_); rintro e w1 ⟨rfl, hb⟩; have HB1 := Aside0.mk hb; clear hb) | (go_at_call 41; (with_reducible refine (HF.out _).mono ?_); rintro e w2 ⟨rfl, hb⟩; have n0_ := Aside0.mk (HB1.out.trans (hb.mono HB1.out.size)); clear HB1 hb; have HB1 := n0_; clear n0_) | (go_at_call 10; (with_reducible refine (HR.out _).mono ?_); rintro e w3 ⟨rfl, hb⟩; have n0_ := Aside0.mk (HB1.out.trans (hb.mono HB1.out.size)); clear HB1 hb; have HB1 := n0_; clear n0_))
  all_goals go_ret
  all_goals exact ⟨rfl, HB1.out⟩
set_option maxHeartbeats 1000000 in
set_option maxRecDepth 100000 in
theorem err_3no (w : World) (s : ByteArray) (h : isLen s) (hc : crc s = 0#16) (hk : nat s 0 1 = 3 ∧ s.size = 23) (hb20 : ¬ 1 < nat s 20 1) (hr : right (rdf (ahead s)) = false) :
    Calls Tryd.prog 17 #[.string s] w fun e w' => e = .returned (.int .i64 3) ∧ Below w.heap.size w w' := by
  have z1 := (nat_rng s 1 1).1
  have z2 : nat s 1 1 < 256 := (nat_rng s 1 1).2
  have z3 := (nat_rng s 0 1).1
  have z4 : nat s 0 1 < 256 := (nat_rng s 0 1).2
  have h0 := h
  unfold isLen at h
  have d1 : decide ((s.size : Int) < 17) = false := decide_eq_false (by omega)
  have hx := idx1 s (by omega)
  have hx0 := idx0 s (by omega)
  have d3 : ((s.size : Int) != nat s 1 1) = false := bne_eq_false_iff_eq.2 h.2.2.symm
  have hsl : ∀ W : World, (Instr.slice 9 (.string s) none (some (.int .i64 ((s.size : Int) - 2))) none).run Tryd.prog W = .ok (.string (s.extract 0 (s.size - 2))) W := fun W => by
    rw [run_slice_string_to_if W 9 s .i64 ((s.size : Int) - 2) Tryd.underlying9, if_pos (by omega), show ((s.size : Int) - 2).toNat = s.size - 2 by omega]
  have HS := Aside0.mk fun W : World => rsealed_f W (s.extract 0 (s.size - 2)) (by rw [ByteArray.size_extract]; omega)
  rw [(sealed_iff s (by omega)).2 hc] at HS
  have y1 : 17 ≤ (s.size : Int) := by omega
  have y2 : (s.size : Int) ≤ 255 := by omega
  have hne2 : (s.toList == s.toList) = true := beq_self_eq_true _
  have hne3 : (s.data.toList == s.data.toList) = true := beq_self_eq_true _
  have k1 : decide (nat s 0 1 < 1) = false := decide_eq_false (by omega)
  have k2 : decide (5 < nat s 0 1) = false := decide_eq_false (by omega)
  have k3 : (nat s 0 1 == 4) = false := beq_eq_false_iff_ne.2 (by omega)
  have k4 : (nat s 0 1 == 3) = true := beq_iff_eq.2 hk.1
  have k5 : ((s.size : Int) != 23) = false := bne_eq_false_iff_eq.2 (by omega)
  have k6 : (nat s 0 1 != 3) = false := bne_eq_false_iff_eq.2 hk.1
  have x20 := idxi s 20 20 (by omega) rfl
  have k7 : decide (1 < nat s 20 1) = false := decide_eq_false hb20
  clear hb20
  have HF := Aside0.mk fun W : World => rframe_f W s h0 (by unfold okSize; omega)
  have HR := Aside0.mk fun W : World => rright_f W (rdf (ahead s)) (rdf_rng _)
  rw [hr] at HR
  generalize rdf (ahead s) = fr at *
  clear hr
  generalize s.extract 0 (s.size - 2) = x at *
  clear h h0 hc hk
  go_enter Tryd.func17, Tryd.ntmps17
  go_wp2_with (first | (go_at_call 19; (with_reducible refine (HS.out _).mono ?_); rintro e w1 ⟨rfl, hb⟩; have HB1 := Aside0.mk hb; clear hb) | (go_at_call 41; (with_reducible refine (HF.out _).mono ?_); rintro e w2 ⟨rfl, hb⟩; have n0_ := Aside0.mk (HB1.out.trans (hb.mono HB1.out.size)); clear HB1 hb; have HB1 := n0_; clear n0_) | (go_at_call 10; (with_reducible refine (HR.out _).mono ?_); rintro e w3 ⟨rfl, hb⟩; have n0_ := Aside0.mk (HB1.out.trans (hb.mono HB1.out.size)); clear HB1 hb; have HB1 := n0_; clear n0_))
  all_goals go_ret
  all_goals exact ⟨rfl, HB1.out⟩
set_option maxHeartbeats 1000000 in
set_option maxRecDepth 100000 in
theorem err_4ok (w : World) (s : ByteArray) (h : isLen s) (hc : crc s = 0#16) (hk : nat s 0 1 = 4 ∧ 27 ≤ s.size ∧ s.size ≤ 42) (hr : right (rdf (ahead s)) = true) :
    Calls Tryd.prog 17 #[.string s] w fun e w' => e = .returned (.int .i64 0) ∧ Below w.heap.size w w' := by
  have z1 := (nat_rng s 1 1).1
  have z2 : nat s 1 1 < 256 := (nat_rng s 1 1).2
  have z3 := (nat_rng s 0 1).1
  have z4 : nat s 0 1 < 256 := (nat_rng s 0 1).2
  have h0 := h
  unfold isLen at h
  have d1 : decide ((s.size : Int) < 17) = false := decide_eq_false (by omega)
  have hx := idx1 s (by omega)
  have hx0 := idx0 s (by omega)
  have d3 : ((s.size : Int) != nat s 1 1) = false := bne_eq_false_iff_eq.2 h.2.2.symm
  have hsl : ∀ W : World, (Instr.slice 9 (.string s) none (some (.int .i64 ((s.size : Int) - 2))) none).run Tryd.prog W = .ok (.string (s.extract 0 (s.size - 2))) W := fun W => by
    rw [run_slice_string_to_if W 9 s .i64 ((s.size : Int) - 2) Tryd.underlying9, if_pos (by omega), show ((s.size : Int) - 2).toNat = s.size - 2 by omega]
  have HS := Aside0.mk fun W : World => rsealed_f W (s.extract 0 (s.size - 2)) (by rw [ByteArray.size_extract]; omega)
  rw [(sealed_iff s (by omega)).2 hc] at HS
  have y1 : 17 ≤ (s.size : Int) := by omega
  have y2 : (s.size : Int) ≤ 255 := by omega
  have hne2 : (s.toList == s.toList) = true := beq_self_eq_true _
  have hne3 : (s.data.toList == s.data.toList) = true := beq_self_eq_true _
  have k1 : decide (nat s 0 1 < 1) = false := decide_eq_false (by omega)
  have k2 : decide (5 < nat s 0 1) = false := decide_eq_false (by omega)
  have k3 : (nat s 0 1 == 4) = true := beq_iff_eq.2 hk.1
  have k4 : (nat s 0 1 == 3) = false := beq_eq_false_iff_ne.2 (by omega)
  have k5 : decide ((s.size : Int) < 27) = false := decide_eq_false (by omega)
  have k6 : decide (42 < (s.size : Int)) = false := decide_eq_false (by omega)
  have HF := Aside0.mk fun W : World => rframe_f W s h0 (by unfold okSize; omega)
  have HR := Aside0.mk fun W : World => rright_f W (rdf (ahead s)) (rdf_rng _)
  rw [hr] at HR
  generalize rdf (ahead s) = fr at *
  clear hr
  generalize s.extract 0 (s.size - 2) = x at *
  clear h h0 hc hk
  go_enter Tryd.func17, Tryd.ntmps17
  go_wp2_with (first | (go_at_call 19; (with_reducible refine (HS.out _).mono ?_); rintro e w1 ⟨rfl, hb⟩; have HB1 := Aside0.mk hb; clear hb) | (go_at_call 41; (with_reducible refine (HF.out _).mono ?_); rintro e w2 ⟨rfl, hb⟩; have n0_ := Aside0.mk (HB1.out.trans (hb.mono HB1.out.size)); clear HB1 hb; have HB1 := n0_; clear n0_) | (go_at_call 10; (with_reducible refine (HR.out _).mono ?_); rintro e w3 ⟨rfl, hb⟩; have n0_ := Aside0.mk (HB1.out.trans (hb.mono HB1.out.size)); clear HB1 hb; have HB1 := n0_; clear n0_))
  all_goals go_ret
  all_goals exact ⟨rfl, HB1.out⟩
set_option maxHeartbeats 1000000 in
set_option maxRecDepth 100000 in
theorem err_4no (w : World) (s : ByteArray) (h : isLen s) (hc : crc s = 0#16) (hk : nat s 0 1 = 4 ∧ 27 ≤ s.size ∧ s.size ≤ 42) (hr : right (rdf (ahead s)) = false) :
    Calls Tryd.prog 17 #[.string s] w fun e w' => e = .returned (.int .i64 3) ∧ Below w.heap.size w w' := by
  have z1 := (nat_rng s 1 1).1
  have z2 : nat s 1 1 < 256 := (nat_rng s 1 1).2
  have z3 := (nat_rng s 0 1).1
  have z4 : nat s 0 1 < 256 := (nat_rng s 0 1).2
  have h0 := h
  unfold isLen at h
  have d1 : decide ((s.size : Int) < 17) = false := decide_eq_false (by omega)
  have hx := idx1 s (by omega)
  have hx0 := idx0 s (by omega)
  have d3 : ((s.size : Int) != nat s 1 1) = false := bne_eq_false_iff_eq.2 h.2.2.symm
  have hsl : ∀ W : World, (Instr.slice 9 (.string s) none (some (.int .i64 ((s.size : Int) - 2))) none).run Tryd.prog W = .ok (.string (s.extract 0 (s.size - 2))) W := fun W => by
    rw [run_slice_string_to_if W 9 s .i64 ((s.size : Int) - 2) Tryd.underlying9, if_pos (by omega), show ((s.size : Int) - 2).toNat = s.size - 2 by omega]
  have HS := Aside0.mk fun W : World => rsealed_f W (s.extract 0 (s.size - 2)) (by rw [ByteArray.size_extract]; omega)
  rw [(sealed_iff s (by omega)).2 hc] at HS
  have y1 : 17 ≤ (s.size : Int) := by omega
  have y2 : (s.size : Int) ≤ 255 := by omega
  have hne2 : (s.toList == s.toList) = true := beq_self_eq_true _
  have hne3 : (s.data.toList == s.data.toList) = true := beq_self_eq_true _
  have k1 : decide (nat s 0 1 < 1) = false := decide_eq_false (by omega)
  have k2 : decide (5 < nat s 0 1) = false := decide_eq_false (by omega)
  have k3 : (nat s 0 1 == 4) = true := beq_iff_eq.2 hk.1
  have k4 : (nat s 0 1 == 3) = false := beq_eq_false_iff_ne.2 (by omega)
  have k5 : decide ((s.size : Int) < 27) = false := decide_eq_false (by omega)
  have k6 : decide (42 < (s.size : Int)) = false := decide_eq_false (by omega)
  have HF := Aside0.mk fun W : World => rframe_f W s h0 (by unfold okSize; omega)
  have HR := Aside0.mk fun W : World => rright_f W (rdf (ahead s)) (rdf_rng _)
  rw [hr] at HR
  generalize rdf (ahead s) = fr at *
  clear hr
  generalize s.extract 0 (s.size - 2) = x at *
  clear h h0 hc hk
  go_enter Tryd.func17, Tryd.ntmps17
  go_wp2_with (first | (go_at_call 19; (with_reducible refine (HS.out _).mono ?_); rintro e w1 ⟨rfl, hb⟩; have HB1 := Aside0.mk hb; clear hb) | (go_at_call 41; (with_reducible refine (HF.out _).mono ?_); rintro e w2 ⟨rfl, hb⟩; have n0_ := Aside0.mk (HB1.out.trans (hb.mono HB1.out.size)); clear HB1 hb; have HB1 := n0_; clear n0_) | (go_at_call 10; (with_reducible refine (HR.out _).mono ?_); rintro e w3 ⟨rfl, hb⟩; have n0_ := Aside0.mk (HB1.out.trans (hb.mono HB1.out.size)); clear HB1 hb; have HB1 := n0_; clear n0_))
  all_goals go_ret
  all_goals exact ⟨rfl, HB1.out⟩
set_option maxHeartbeats 1000000 in
set_option maxRecDepth 100000 in
theorem err_Pok (w : World) (s : ByteArray) (h : isLen s) (hc : crc s = 0#16) (hk : (nat s 0 1 = 1 ∨ nat s 0 1 = 2 ∨ nat s 0 1 = 5) ∧ s.size = 17) (hr : right (rdf (ahead s)) = true) :
    Calls Tryd.prog 17 #[.string s] w fun e w' => e = .returned (.int .i64 0) ∧ Below w.heap.size w w' := by
  have z1 := (nat_rng s 1 1).1
  have z2 : nat s 1 1 < 256 := (nat_rng s 1 1).2
  have z3 := (nat_rng s 0 1).1
  have z4 : nat s 0 1 < 256 := (nat_rng s 0 1).2
  have h0 := h
  unfold isLen at h
  have d1 : decide ((s.size : Int) < 17) = false := decide_eq_false (by omega)
  have hx := idx1 s (by omega)
  have hx0 := idx0 s (by omega)
  have d3 : ((s.size : Int) != nat s 1 1) = false := bne_eq_false_iff_eq.2 h.2.2.symm
  have hsl : ∀ W : World, (Instr.slice 9 (.string s) none (some (.int .i64 ((s.size : Int) - 2))) none).run Tryd.prog W = .ok (.string (s.extract 0 (s.size - 2))) W := fun W => by
    rw [run_slice_string_to_if W 9 s .i64 ((s.size : Int) - 2) Tryd.underlying9, if_pos (by omega), show ((s.size : Int) - 2).toNat = s.size - 2 by omega]
  have HS := Aside0.mk fun W : World => rsealed_f W (s.extract 0 (s.size - 2)) (by rw [ByteArray.size_extract]; omega)
  rw [(sealed_iff s (by omega)).2 hc] at HS
  have y1 : 17 ≤ (s.size : Int) := by omega
  have y2 : (s.size : Int) ≤ 255 := by omega
  have hne2 : (s.toList == s.toList) = true := beq_self_eq_true _
  have hne3 : (s.data.toList == s.data.toList) = true := beq_self_eq_true _
  have k1 : decide (nat s 0 1 < 1) = false := decide_eq_false (by omega)
  have k2 : decide (5 < nat s 0 1) = false := decide_eq_false (by omega)
  have k3 : (nat s 0 1 == 4) = false := beq_eq_false_iff_ne.2 (by omega)
  have k4 : (nat s 0 1 == 3) = false := beq_eq_false_iff_ne.2 (by omega)
  have k6 : (nat s 0 1 != 3) = true := bne_iff_ne.2 (by omega)
  have k5 : ((s.size : Int) != 17) = false := bne_eq_false_iff_eq.2 (by omega)
  have HF := Aside0.mk fun W : World => rframe_f W s h0 (by unfold okSize; omega)
  have HR := Aside0.mk fun W : World => rright_f W (rdf (ahead s)) (rdf_rng _)
  rw [hr] at HR
  generalize rdf (ahead s) = fr at *
  clear hr
  generalize s.extract 0 (s.size - 2) = x at *
  clear h h0 hc hk
  go_enter Tryd.func17, Tryd.ntmps17
  go_wp2_with (first | (go_at_call 19; (with_reducible refine (HS.out _).mono ?_); rintro e w1 ⟨rfl, hb⟩; have HB1 := Aside0.mk hb; clear hb) | (go_at_call 41; (with_reducible refine (HF.out _).mono ?_); rintro e w2 ⟨rfl, hb⟩; have n0_ := Aside0.mk (HB1.out.trans (hb.mono HB1.out.size)); clear HB1 hb; have HB1 := n0_; clear n0_) | (go_at_call 10; (with_reducible refine (HR.out _).mono ?_); rintro e w3 ⟨rfl, hb⟩; have n0_ := Aside0.mk (HB1.out.trans (hb.mono HB1.out.size)); clear HB1 hb; have HB1 := n0_; clear n0_))
  all_goals go_ret
  all_goals exact ⟨rfl, HB1.out⟩
set_option maxHeartbeats 1000000 in
set_option maxRecDepth 100000 in
theorem err_Pno (w : World) (s : ByteArray) (h : isLen s) (hc : crc s = 0#16) (hk : (nat s 0 1 = 1 ∨ nat s 0 1 = 2 ∨ nat s 0 1 = 5) ∧ s.size = 17) (hr : right (rdf (ahead s)) = false) :
    Calls Tryd.prog 17 #[.string s] w fun e w' => e = .returned (.int .i64 3) ∧ Below w.heap.size w w' := by
  have z1 := (nat_rng s 1 1).1
  have z2 : nat s 1 1 < 256 := (nat_rng s 1 1).2
  have z3 := (nat_rng s 0 1).1
  have z4 : nat s 0 1 < 256 := (nat_rng s 0 1).2
  have h0 := h
  unfold isLen at h
  have d1 : decide ((s.size : Int) < 17) = false := decide_eq_false (by omega)
  have hx := idx1 s (by omega)
  have hx0 := idx0 s (by omega)
  have d3 : ((s.size : Int) != nat s 1 1) = false := bne_eq_false_iff_eq.2 h.2.2.symm
  have hsl : ∀ W : World, (Instr.slice 9 (.string s) none (some (.int .i64 ((s.size : Int) - 2))) none).run Tryd.prog W = .ok (.string (s.extract 0 (s.size - 2))) W := fun W => by
    rw [run_slice_string_to_if W 9 s .i64 ((s.size : Int) - 2) Tryd.underlying9, if_pos (by omega), show ((s.size : Int) - 2).toNat = s.size - 2 by omega]
  have HS := Aside0.mk fun W : World => rsealed_f W (s.extract 0 (s.size - 2)) (by rw [ByteArray.size_extract]; omega)
  rw [(sealed_iff s (by omega)).2 hc] at HS
  have y1 : 17 ≤ (s.size : Int) := by omega
  have y2 : (s.size : Int) ≤ 255 := by omega
  have hne2 : (s.toList == s.toList) = true := beq_self_eq_true _
  have hne3 : (s.data.toList == s.data.toList) = true := beq_self_eq_true _
  have k1 : decide (nat s 0 1 < 1) = false := decide_eq_false (by omega)
  have k2 : decide (5 < nat s 0 1) = false := decide_eq_false (by omega)
  have k3 : (nat s 0 1 == 4) = false := beq_eq_false_iff_ne.2 (by omega)
  have k4 : (nat s 0 1 == 3) = false := beq_eq_false_iff_ne.2 (by omega)
  have k6 : (nat s 0 1 != 3) = true := bne_iff_ne.2 (by omega)
  have k5 : ((s.size : Int) != 17) = false := bne_eq_false_iff_eq.2 (by omega)
  have HF := Aside0.mk fun W : World => rframe_f W s h0 (by unfold okSize; omega)
  have HR := Aside0.mk fun W : World => rright_f W (rdf (ahead s)) (rdf_rng _)
  rw [hr] at HR
  generalize rdf (ahead s) = fr at *
  clear hr
  generalize s.extract 0 (s.size - 2) = x at *
  clear h h0 hc hk
  go_enter Tryd.func17, Tryd.ntmps17
  go_wp2_with (first | (go_at_call 19; (with_reducible refine (HS.out _).mono ?_); rintro e w1 ⟨rfl, hb⟩; have HB1 := Aside0.mk hb; clear hb) | (go_at_call 41; (with_reducible refine (HF.out _).mono ?_); rintro e w2 ⟨rfl, hb⟩; have n0_ := Aside0.mk (HB1.out.trans (hb.mono HB1.out.size)); clear HB1 hb; have HB1 := n0_; clear n0_) | (go_at_call 10; (with_reducible refine (HR.out _).mono ?_); rintro e w3 ⟨rfl, hb⟩; have n0_ := Aside0.mk (HB1.out.trans (hb.mono HB1.out.size)); clear HB1 hb; have HB1 := n0_; clear n0_))
  all_goals go_ret
  all_goals exact ⟨rfl, HB1.out⟩
theorem rerr_f (w : World) (s : ByteArray) (hs : s.size ≤ 1000000) : Calls Tryd.prog 17 #[.string s] w fun e w' => e = .returned (.int .i64 (derr s)) ∧ Below w.heap.size w w' := by
  unfold derr
  by_cases hl : isLen s
  · rw [if_pos hl]
    have hl2 := hl
    unfold isLen at hl2
    by_cases hc : crc s = 0#16
    · rw [if_pos hc]
      by_cases hk : 1 ≤ nat s 0 1 ∧ nat s 0 1 ≤ 5
      · rw [if_pos hk]
        by_cases hz : okSize (nat s 0 1) s.size
        · rw [if_pos hz]
          have hz2 := okSize_lo hz
          have h0 : nat (ahead s) 0 1 = nat s 0 1 := ahead_nat s 0 1 (by omega)
          unfold okSize at hz
          by_cases k3 : nat s 0 1 = 3
          · have h20 : nat (ahead s) 20 1 = nat s 20 1 := ahead_nat s 20 1 (by omega)
            have hb : rdb (ahead s) = decide (nat s 20 1 < 2) := by
              unfold rdb
              rw [h0, if_pos k3, h20]
            rw [hb]
            by_cases hb20 : 1 < nat s 20 1
            · rw [decide_eq_false (show ¬ nat s 20 1 < 2 by omega), if_neg (by simp)]
              exact err_byte w s hl hc ⟨k3, by omega⟩ hb20
            · rw [decide_eq_true (show nat s 20 1 < 2 by omega)]
              cases hr : right (rdf (ahead s)) with
              | true => rw [if_pos (by simp)]; exact err_3ok w s hl hc ⟨k3, by omega⟩ hb20 hr
              | false => rw [if_neg (by simp)]; exact err_3no w s hl hc ⟨k3, by omega⟩ hb20 hr
          · have hb : rdb (ahead s) = true := by
              unfold rdb
              rw [h0, if_neg k3]
            rw [hb]
            by_cases k4 : nat s 0 1 = 4
            · cases hr : right (rdf (ahead s)) with
              | true => rw [if_pos (by simp)]; exact err_4ok w s hl hc ⟨k4, by omega, by omega⟩ hr
              | false => rw [if_neg (by simp)]; exact err_4no w s hl hc ⟨k4, by omega, by omega⟩ hr
            · cases hr : right (rdf (ahead s)) with
              | true => rw [if_pos (by simp)]; exact err_Pok w s hl hc ⟨by omega, by omega⟩ hr
              | false => rw [if_neg (by simp)]; exact err_Pno w s hl hc ⟨by omega, by omega⟩ hr
        · rw [if_neg hz]
          unfold okSize at hz
          by_cases k3 : nat s 0 1 = 3
          · exact err_stat w s hl hc k3 (by omega)
          · by_cases k4 : nat s 0 1 = 4
            · by_cases k5 : s.size < 27
              · exact err_data_lo w s hl hc k4 k5
              · exact err_data_hi w s hl hc k4 (by omega)
            · exact err_plain w s hl hc ⟨hk.1, hk.2, k3, k4⟩ (by omega)
      · rw [if_neg hk]
        by_cases k1 : nat s 0 1 < 1
        · exact err_kind_lo w s hl hc k1
        · exact err_kind_hi w s hl hc (by omega)
    · rw [if_neg hc]
      exact err_crc w s hl hc
  · rw [if_neg hl]
    exact err_len w s hs hl
end Go.Proofs.YtkcaifpmceoflaaDoor.Frm

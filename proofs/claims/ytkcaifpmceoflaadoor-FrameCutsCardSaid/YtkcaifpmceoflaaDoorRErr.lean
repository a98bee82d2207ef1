/- The walk of the document's Error. Conditions: those that each statement names. -/
import Derived.Test.YtkcaifpmceoflaaDoorDec
import Derived.Test.YtkcaifpmceoflaaDoorREye
import Derived.Test.YtkcaifpmceoflaaDoorCrc3
namespace Go.Proofs.YtkcaifpmceoflaaDoor.Frm
open Go.RowKit Go.Proofs.YtkcaifpmceoflaaDoorW.PrintWords Go.Proofs.YtkcaifpmceoflaaDoorW.PrintLast Go.Proofs.YtkcaifpmceoflaaDoorW.PrintMore
set_option linter.unusedVariables false
set_option linter.unusedSimpArgs false
set_option maxRecDepth 100000 in
theorem err_len (w : World) (s : ByteArray) (hs : s.size ≤ 1000000) (h : ¬ isLen s) :
    Calls Tryd.prog 17 #[.string s] w fun e w' => e = .returned (.int .i64 10) ∧ Below w.heap.size w w' := by
  have z1 := (nat_rng s 1 1).1
  have z2 : nat s 1 1 < 256 := (nat_rng s 1 1).2
  unfold isLen at h
  by_cases e1 : s.size < 17
  · have d1 : decide ((s.size : Int) < 17) = true := decide_eq_true (by omega)
    clear h e1
    go_enter Tryd.func17, Tryd.ntmps17
    go_wp2
    go_ret
    exact ⟨rfl, Below.refl _ _⟩
  · have d1 : decide ((s.size : Int) < 17) = false := decide_eq_false (by omega)
    have hx := idx1 s (by omega)
    have d3 : ((s.size : Int) != nat s 1 1) = true := bne_iff_ne.2 (by omega)
    clear h e1
    go_enter Tryd.func17, Tryd.ntmps17
    go_wp2
    go_ret
    exact ⟨rfl, Below.refl _ _⟩
theorem rsealed_f (w : World) (x : ByteArray) (hx : x.size ≤ 1000000) : Calls Tryd.prog 19 #[.string x] w fun e w' => e = .returned (.string (x ++ two8 (crc x))) ∧ Below w.heap.size w w' :=
  Own.fuglemanref01_Sealed.calls _ x _ w (ref_sealed x hx)
set_option maxRecDepth 100000 in
theorem err_crc (w : World) (s : ByteArray) (h : isLen s) (hc : crc s ≠ 0#16) :
    Calls Tryd.prog 17 #[.string s] w fun e w' => e = .returned (.int .i64 9) ∧ Below w.heap.size w w' := by
  have z1 := (nat_rng s 1 1).1
  have z2 : nat s 1 1 < 256 := (nat_rng s 1 1).2
  unfold isLen at h
  have d1 : decide ((s.size : Int) < 17) = false := decide_eq_false (by omega)
  have hx := idx1 s (by omega)
  have d3 : ((s.size : Int) != nat s 1 1) = false := bne_eq_false_iff_eq.2 h.2.2.symm
  have hsl : ∀ W : World, (Instr.slice 9 (.string s) none (some (.int .i64 ((s.size : Int) - 2))) none).run Tryd.prog W = .ok (.string (s.extract 0 (s.size - 2))) W := fun W => by
    rw [run_slice_string_to_if W 9 s .i64 ((s.size : Int) - 2) Tryd.underlying9, if_pos (by omega), show ((s.size : Int) - 2).toNat = s.size - 2 by omega]
  have HS := Aside0.mk fun W : World => rsealed_f W (s.extract 0 (s.size - 2)) (by rw [ByteArray.size_extract]; omega)
  have hne : (s.extract 0 (s.size - 2) ++ two8 (crc (s.extract 0 (s.size - 2)))) ≠ s := fun e => hc ((sealed_iff s (by omega)).1 e)
  have y1 : 17 ≤ (s.size : Int) := by omega
  have y2 : (s.size : Int) ≤ 255 := by omega
  generalize s.extract 0 (s.size - 2) ++ two8 (crc (s.extract 0 (s.size - 2))) = r at *
  generalize s.extract 0 (s.size - 2) = x at *
  have hne2 : (r.toList == s.toList) = false := by
    rw [Lib.toList_data, Lib.toList_data]
    exact beq_eq_false_iff_ne.2 (fun e => hne (ByteArray.ext (Array.toList_inj.1 e)))
  have hne3 : (r.data.toList == s.data.toList) = false := by
    exact beq_eq_false_iff_ne.2 (fun e => hne (ByteArray.ext (Array.toList_inj.1 e)))
  have HB := Aside0.mk (Below.refl w.heap.size w)
  clear h hc
  go_enter Tryd.func17, Tryd.ntmps17
  go_wp2_with (go_at_call 19; (with_reducible refine (HS.out _).mono ?_); rintro e w1 ⟨rfl, hb⟩; have HB1 := Aside0.mk hb; clear hb)
  go_ret
  exact ⟨rfl, HB1.out⟩
set_option maxRecDepth 100000 in
theorem err_kind_lo (w : World) (s : ByteArray) (h : isLen s) (hc : crc s = 0#16) (hk : nat s 0 1 < 1) :
    Calls Tryd.prog 17 #[.string s] w fun e w' => e = .returned (.int .i64 11) ∧ Below w.heap.size w w' := by
  have z1 := (nat_rng s 1 1).1
  have z2 : nat s 1 1 < 256 := (nat_rng s 1 1).2
  have z3 := (nat_rng s 0 1).1
  have z4 : nat s 0 1 < 256 := (nat_rng s 0 1).2
  unfold isLen at h
  have d1 : decide ((s.size : Int) < 17) = false := decide_eq_false (by omega)
  have hx := idx1 s (by omega)
  have hx0 := idx0 s (by omega)
  have d3 : ((s.size : Int) != nat s 1 1) = false := bne_eq_false_iff_eq.2 h.2.2.symm
  have hsl : ∀ W : World, (Instr.slice 9 (.string s) none (some (.int .i64 ((s.size : Int) - 2))) none).run Tryd.prog W = .ok (.string (s.extract 0 (s.size - 2))) W := fun W => by
    rw [run_slice_string_to_if W 9 s .i64 ((s.size : Int) - 2) Tryd.underlying9, if_pos (by omega), show ((s.size : Int) - 2).toNat = s.size - 2 by omega]
  have HS := Aside0.mk fun W : World => rsealed_f W (s.extract 0 (s.size - 2)) (by rw [ByteArray.size_extract]; omega)
  rw [(sealed_iff s (by omega)).2 hc] at HS
  have y1 : 17 ≤ (s.size : Int) := by omega
  have y2 : (s.size : Int) ≤ 255 := by omega
  generalize s.extract 0 (s.size - 2) = x at *
  have hne2 : (s.toList == s.toList) = true := beq_self_eq_true _
  have hne3 : (s.data.toList == s.data.toList) = true := beq_self_eq_true _
  have HB := Aside0.mk (Below.refl w.heap.size w)
  have k1 : decide (nat s 0 1 < 1) = true := decide_eq_true hk
  clear h hc hk
  go_enter Tryd.func17, Tryd.ntmps17
  go_wp2_with (go_at_call 19; (with_reducible refine (HS.out _).mono ?_); rintro e w1 ⟨rfl, hb⟩; have HB1 := Aside0.mk hb; clear hb)
  go_ret
  exact ⟨rfl, HB1.out⟩
set_option maxRecDepth 100000 in
theorem err_kind_hi (w : World) (s : ByteArray) (h : isLen s) (hc : crc s = 0#16) (hk : 5 < nat s 0 1) :
    Calls Tryd.prog 17 #[.string s] w fun e w' => e = .returned (.int .i64 11) ∧ Below w.heap.size w w' := by
  have z1 := (nat_rng s 1 1).1
  have z2 : nat s 1 1 < 256 := (nat_rng s 1 1).2
  have z3 := (nat_rng s 0 1).1
  have z4 : nat s 0 1 < 256 := (nat_rng s 0 1).2
  unfold isLen at h
  have d1 : decide ((s.size : Int) < 17) = false := decide_eq_false (by omega)
  have hx := idx1 s (by omega)
  have hx0 := idx0 s (by omega)
  have d3 : ((s.size : Int) != nat s 1 1) = false := bne_eq_false_iff_eq.2 h.2.2.symm
  have hsl : ∀ W : World, (Instr.slice 9 (.string s) none (some (.int .i64 ((s.size : Int) - 2))) none).run Tryd.prog W = .ok (.string (s.extract 0 (s.size - 2))) W := fun W => by
    rw [run_slice_string_to_if W 9 s .i64 ((s.size : Int) - 2) Tryd.underlying9, if_pos (by omega), show ((s.size : Int) - 2).toNat = s.size - 2 by omega]
  have HS := Aside0.mk fun W : World => rsealed_f W (s.extract 0 (s.size - 2)) (by rw [ByteArray.size_extract]; omega)
  rw [(sealed_iff s (by omega)).2 hc] at HS
  have y1 : 17 ≤ (s.size : Int) := by omega
  have y2 : (s.size : Int) ≤ 255 := by omega
  generalize s.extract 0 (s.size - 2) = x at *
  have hne2 : (s.toList == s.toList) = true := beq_self_eq_true _
  have hne3 : (s.data.toList == s.data.toList) = true := beq_self_eq_true _
  have HB := Aside0.mk (Below.refl w.heap.size w)
  have k1 : decide (nat s 0 1 < 1) = false := decide_eq_false (by omega)
  have k2 : decide (5 < nat s 0 1) = true := decide_eq_true hk
  clear h hc hk
  go_enter Tryd.func17, Tryd.ntmps17
  go_wp2_with (go_at_call 19; (with_reducible refine (HS.out _).mono ?_); rintro e w1 ⟨rfl, hb⟩; have HB1 := Aside0.mk hb; clear hb)
  go_ret
  exact ⟨rfl, HB1.out⟩
set_option maxRecDepth 100000 in
theorem err_data_lo (w : World) (s : ByteArray) (h : isLen s) (hc : crc s = 0#16) (hk : nat s 0 1 = 4) (hz : s.size < 27) :
    Calls Tryd.prog 17 #[.string s] w fun e w' => e = .returned (.int .i64 10) ∧ Below w.heap.size w w' := by
  have z1 := (nat_rng s 1 1).1
  have z2 : nat s 1 1 < 256 := (nat_rng s 1 1).2
  have z3 := (nat_rng s 0 1).1
  have z4 : nat s 0 1 < 256 := (nat_rng s 0 1).2
  unfold isLen at h
  have d1 : decide ((s.size : Int) < 17) = false := decide_eq_false (by omega)
  have hx := idx1 s (by omega)
  have hx0 := idx0 s (by omega)
  have d3 : ((s.size : Int) != nat s 1 1) = false := bne_eq_false_iff_eq.2 h.2.2.symm
  have hsl : ∀ W : World, (Instr.slice 9 (.string s) none (some (.int .i64 ((s.size : Int) - 2))) none).run Tryd.prog W = .ok (.string (s.extract 0 (s.size - 2))) W := fun W => by
    rw [run_slice_string_to_if W 9 s .i64 ((s.size : Int) - 2) Tryd.underlying9, if_pos (by omega), show ((s.size : Int) - 2).toNat = s.size - 2 by omega]
  have HS := Aside0.mk fun W : World => rsealed_f W (s.extract 0 (s.size - 2)) (by rw [ByteArray.size_extract]; omega)
  rw [(sealed_iff s (by omega)).2 hc] at HS
  have y1 : 17 ≤ (s.size : Int) := by omega
  have y2 : (s.size : Int) ≤ 255 := by omega
  generalize s.extract 0 (s.size - 2) = x at *
  have hne2 : (s.toList == s.toList) = true := beq_self_eq_true _
  have hne3 : (s.data.toList == s.data.toList) = true := beq_self_eq_true _
  have HB := Aside0.mk (Below.refl w.heap.size w)
  have k1 : decide (nat s 0 1 < 1) = false := decide_eq_false (by omega)
  have k2 : decide (5 < nat s 0 1) = false := decide_eq_false (by omega)
  have k3 : (nat s 0 1 == 4) = true := beq_iff_eq.2 hk
  have k4 : decide ((s.size : Int) < 27) = true := decide_eq_true (by omega)
  clear h hc hk hz
  go_enter Tryd.func17, Tryd.ntmps17
  go_wp2_with (go_at_call 19; (with_reducible refine (HS.out _).mono ?_); rintro e w1 ⟨rfl, hb⟩; have HB1 := Aside0.mk hb; clear hb)
  go_ret
  exact ⟨rfl, HB1.out⟩
set_option maxRecDepth 100000 in
theorem err_data_hi (w : World) (s : ByteArray) (h : isLen s) (hc : crc s = 0#16) (hk : nat s 0 1 = 4) (hz : 42 < s.size) :
    Calls Tryd.prog 17 #[.string s] w fun e w' => e = .returned (.int .i64 10) ∧ Below w.heap.size w w' := by
  have z1 := (nat_rng s 1 1).1
  have z2 : nat s 1 1 < 256 := (nat_rng s 1 1).2
  have z3 := (nat_rng s 0 1).1
  have z4 : nat s 0 1 < 256 := (nat_rng s 0 1).2
  unfold isLen at h
  have d1 : decide ((s.size : Int) < 17) = false := decide_eq_false (by omega)
  have hx := idx1 s (by omega)
  have hx0 := idx0 s (by omega)
  have d3 : ((s.size : Int) != nat s 1 1) = false := bne_eq_false_iff_eq.2 h.2.2.symm
  have hsl : ∀ W : World, (Instr.slice 9 (.string s) none (some (.int .i64 ((s.size : Int) - 2))) none).run Tryd.prog W = .ok (.string (s.extract 0 (s.size - 2))) W := fun W => by
    rw [run_slice_string_to_if W 9 s .i64 ((s.size : Int) - 2) Tryd.underlying9, if_pos (by omega), show ((s.size : Int) - 2).toNat = s.size - 2 by omega]
  have HS := Aside0.mk fun W : World => rsealed_f W (s.extract 0 (s.size - 2)) (by rw [ByteArray.size_extract]; omega)
  rw [(sealed_iff s (by omega)).2 hc] at HS
  have y1 : 17 ≤ (s.size : Int) := by omega
  have y2 : (s.size : Int) ≤ 255 := by omega
  generalize s.extract 0 (s.size - 2) = x at *
  have hne2 : (s.toList == s.toList) = true := beq_self_eq_true _
  have hne3 : (s.data.toList == s.data.toList) = true := beq_self_eq_true _
  have HB := Aside0.mk (Below.refl w.heap.size w)
  have k1 : decide (nat s 0 1 < 1) = false := decide_eq_false (by omega)
  have k2 : decide (5 < nat s 0 1) = false := decide_eq_false (by omega)
  have k3 : (nat s 0 1 == 4) = true := beq_iff_eq.2 hk
  have k4 : decide ((s.size : Int) < 27) = false := decide_eq_false (by omega)
  have k5 : decide (42 < (s.size : Int)) = true := decide_eq_true (by omega)
  clear h hc hk hz
  go_enter Tryd.func17, Tryd.ntmps17
  go_wp2_with (go_at_call 19; (with_reducible refine (HS.out _).mono ?_); rintro e w1 ⟨rfl, hb⟩; have HB1 := Aside0.mk hb; clear hb)
  go_ret
  exact ⟨rfl, HB1.out⟩
set_option maxRecDepth 100000 in
theorem err_stat (w : World) (s : ByteArray) (h : isLen s) (hc : crc s = 0#16) (hk : nat s 0 1 = 3) (hz : s.size ≠ 23) :
    Calls Tryd.prog 17 #[.string s] w fun e w' => e = .returned (.int .i64 10) ∧ Below w.heap.size w w' := by
  have z1 := (nat_rng s 1 1).1
  have z2 : nat s 1 1 < 256 := (nat_rng s 1 1).2
  have z3 := (nat_rng s 0 1).1
  have z4 : nat s 0 1 < 256 := (nat_rng s 0 1).2
  unfold isLen at h
  have d1 : decide ((s.size : Int) < 17) = false := decide_eq_false (by omega)
  have hx := idx1 s (by omega)
  have hx0 := idx0 s (by omega)
  have d3 : ((s.size : Int) != nat s 1 1) = false := bne_eq_false_iff_eq.2 h.2.2.symm
  have hsl : ∀ W : World, (Instr.slice 9 (.string s) none (some (.int .i64 ((s.size : Int) - 2))) none).run Tryd.prog W = .ok (.string (s.extract 0 (s.size - 2))) W := fun W => by
    rw [run_slice_string_to_if W 9 s .i64 ((s.size : Int) - 2) Tryd.underlying9, if_pos (by omega), show ((s.size : Int) - 2).toNat = s.size - 2 by omega]
  have HS := Aside0.mk fun W : World => rsealed_f W (s.extract 0 (s.size - 2)) (by rw [ByteArray.size_extract]; omega)
  rw [(sealed_iff s (by omega)).2 hc] at HS
  have y1 : 17 ≤ (s.size : Int) := by omega
  have y2 : (s.size : Int) ≤ 255 := by omega
  generalize s.extract 0 (s.size - 2) = x at *
  have hne2 : (s.toList == s.toList) = true := beq_self_eq_true _
  have hne3 : (s.data.toList == s.data.toList) = true := beq_self_eq_true _
  have HB := Aside0.mk (Below.refl w.heap.size w)
  have k1 : decide (nat s 0 1 < 1) = false := decide_eq_false (by omega)
  have k2 : decide (5 < nat s 0 1) = false := decide_eq_false (by omega)
  have k3 : (nat s 0 1 == 4) = false := beq_eq_false_iff_ne.2 (by omega)
  have k4 : (nat s 0 1 == 3) = true := beq_iff_eq.2 hk
  have k5 : ((s.size : Int) != 23) = true := bne_iff_ne.2 (by omega)
  clear h hc hk hz
  go_enter Tryd.func17, Tryd.ntmps17
  go_wp2_with (go_at_call 19; (with_reducible refine (HS.out _).mono ?_); rintro e w1 ⟨rfl, hb⟩; have HB1 := Aside0.mk hb; clear hb)
  go_ret
  exact ⟨rfl, HB1.out⟩
set_option maxRecDepth 100000 in
theorem err_plain (w : World) (s : ByteArray) (h : isLen s) (hc : crc s = 0#16) (hk : 1 ≤ nat s 0 1 ∧ nat s 0 1 ≤ 5 ∧ nat s 0 1 ≠ 3 ∧ nat s 0 1 ≠ 4) (hz : s.size ≠ 17) :
    Calls Tryd.prog 17 #[.string s] w fun e w' => e = .returned (.int .i64 10) ∧ Below w.heap.size w w' := by
  have z1 := (nat_rng s 1 1).1
  have z2 : nat s 1 1 < 256 := (nat_rng s 1 1).2
  have z3 := (nat_rng s 0 1).1
  have z4 : nat s 0 1 < 256 := (nat_rng s 0 1).2
  unfold isLen at h
  have d1 : decide ((s.size : Int) < 17) = false := decide_eq_false (by omega)
  have hx := idx1 s (by omega)
  have hx0 := idx0 s (by omega)
  have d3 : ((s.size : Int) != nat s 1 1) = false := bne_eq_false_iff_eq.2 h.2.2.symm
  have hsl : ∀ W : World, (Instr.slice 9 (.string s) none (some (.int .i64 ((s.size : Int) - 2))) none).run Tryd.prog W = .ok (.string (s.extract 0 (s.size - 2))) W := fun W => by
    rw [run_slice_string_to_if W 9 s .i64 ((s.size : Int) - 2) Tryd.underlying9, if_pos (by omega), show ((s.size : Int) - 2).toNat = s.size - 2 by omega]
  have HS := Aside0.mk fun W : World => rsealed_f W (s.extract 0 (s.size - 2)) (by rw [ByteArray.size_extract]; omega)
  rw [(sealed_iff s (by omega)).2 hc] at HS
  have y1 : 17 ≤ (s.size : Int) := by omega
  have y2 : (s.size : Int) ≤ 255 := by omega
  generalize s.extract 0 (s.size - 2) = x at *
  have hne2 : (s.toList == s.toList) = true := beq_self_eq_true _
  have hne3 : (s.data.toList == s.data.toList) = true := beq_self_eq_true _
  have HB := Aside0.mk (Below.refl w.heap.size w)
  have k1 : decide (nat s 0 1 < 1) = false := decide_eq_false (by omega)
  have k2 : decide (5 < nat s 0 1) = false := decide_eq_false (by omega)
  have k3 : (nat s 0 1 == 4) = false := beq_eq_false_iff_ne.2 (by omega)
  have k4 : (nat s 0 1 == 3) = false := beq_eq_false_iff_ne.2 (by omega)
  have k6 : (nat s 0 1 != 3) = true := bne_iff_ne.2 (by omega)
  have k5 : ((s.size : Int) != 17) = true := bne_iff_ne.2 (by omega)
  clear h hc hk hz
  go_enter Tryd.func17, Tryd.ntmps17
  go_wp2_with (go_at_call 19; (with_reducible refine (HS.out _).mono ?_); rintro e w1 ⟨rfl, hb⟩; have HB1 := Aside0.mk hb; clear hb)
  go_ret
  exact ⟨rfl, HB1.out⟩
end Go.Proofs.YtkcaifpmceoflaaDoor.Frm

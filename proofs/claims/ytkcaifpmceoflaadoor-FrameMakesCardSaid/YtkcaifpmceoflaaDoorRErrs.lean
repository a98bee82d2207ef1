/- The walks of the document's reader: Take, Number, number. Conditions: those that each statement names. The walk of the document's Error. Conditions: those that each statement names. -/
import Derived.Test.YtkcaifpmceoflaaDoorEyes
import Derived.Test.YtkcaifpmceoflaaDoorDec
import Derived.Test.YtkcaifpmceoflaaDoorSums
namespace Go.Proofs.YtkcaifpmceoflaaDoor.Frm
open Go.RowKit Go.Proofs.YtkcaifpmceoflaaDoorW.PrintWords Go.Proofs.YtkcaifpmceoflaaDoorW.PrintLast Go.Proofs.YtkcaifpmceoflaaDoorW.PrintMore
set_option linter.unusedVariables false
set_option linter.unusedSimpArgs false
theorem ref_take (w : World) (g : Nat) (s : ByteArray) (n : Nat) (h : w.heap[g]? = some (.cells #[.string s, .bool false] 104 (0, 0))) (hn : n ≤ s.size) (hs : s.size ≤ 1000000) :
    Calls Tryd.prog 77 #[.pointer (some ⟨g, 0, none⟩), .int .i64 (n : Int)] w fun e w' => e = .returned (.string (s.extract 0 n)) ∧ w' = w.setCell ⟨g, 0, none⟩ (.string (s.extract n s.size)) := by
  have c0 : w.cell? ⟨g, 0, none⟩ = some (.string s) := blk_cell h 0
  have c1 : w.cell? ⟨g, 1, none⟩ = some (.bool false) := blk_cell h 1
  have f0 := blk_frozen h 0
  have f1 := blk_frozen h 1
  have d1 : decide ((n : Int) < 0) = false := decide_eq_false (by omega)
  have d2 : decide ((s.size : Int) < (n : Int)) = false := decide_eq_false (by omega)
  have hsl : ∀ W : World, (Instr.slice 9 (.string s) none (some (.int .i64 (n : Int))) none).run Tryd.prog W = .ok (.string (s.extract 0 n)) W := fun W => by
    rw [run_slice_string_to_if W 9 s .i64 (n : Int) Tryd.underlying9, if_pos (by omega), Int.toNat_natCast]
  have hsr : ∀ W : World, (Instr.slice 9 (.string s) (some (.int .i64 (n : Int))) none none).run Tryd.prog W = .ok (.string (s.extract n s.size)) W := fun W => by
    rw [run_slice_string_from_if W 9 s .i64 (n : Int) Tryd.underlying9, if_pos (by omega), Int.toNat_natCast]
  clear h
  go_enter Tryd.func77, Tryd.ntmps77
  go_wp2
  all_goals go_ret
  all_goals exact ⟨rfl, rfl⟩
set_option maxHeartbeats 1000000 in
theorem ref_number (w : World) (g : Nat) (s : ByteArray) (m : Nat) (h : w.heap[g]? = some (.cells #[.string s, .bool false] 104 (0, 0))) (hm : m ≤ s.size) (hs : s.size ≤ 1000000) (h4 : m ≤ 4) :
    Calls Tryd.prog 68 #[.pointer (some ⟨g, 0, none⟩), .int .i64 (m : Int)] w fun e w' => e = .returned (.int .u32 (num (s.extract 0 m).data.toList)) ∧ w' = w.setCell ⟨g, 0, none⟩ (.string (s.extract m s.size)) := by
  have HT := Aside0.mk (ref_take w g s m h hm hs)
  obtain ⟨y, hy⟩ : ∃ y, s.extract 0 m = y := ⟨_, rfl⟩
  have hyl : y.data.toList.length = m := by
    rw [← hy, Array.length_toList]
    show (s.extract 0 m).size = m
    rw [ByteArray.size_extract]
    omega
  rw [hy] at HT ⊢
  have HM := Aside0.mk (And.intro h4 hyl)
  have hys : y.size = m := by rw [← hyl, Array.length_toList]; rfl
  obtain ⟨W9, hW9⟩ : ∃ W, w.setCell ⟨g, 0, none⟩ (.string (s.extract m s.size)) = W := ⟨_, rfl⟩
  rw [hW9] at HT ⊢
  clear h hm hs h4 hy hyl hW9
  go_enter Tryd.func68, Tryd.ntmps68
  go_wp2_with (go_at_call 77; (with_reducible refine HT.out.mono ?_); rintro e w1 ⟨rfl, rfl⟩)
  obtain ⟨l, hl⟩ : ∃ l, y.data.toList = l := ⟨_, rfl⟩
  rw [hl] at HM
  have HLE := Aside0.mk hl
  clear hl
  have hix : ∀ (k : Nat) (hk : k < l.length) (W : World), (Instr.index 9 (.string y) (.int .i64 (k : Int))).run Tryd.prog W = .ok (.int .u8 (l[k].toNat : Int)) W := fun k hk W => by
    have h1 : l.length = m := HM.out.2
    rw [run_index_string W 9 y .i64 (k : Int) Tryd.underlying9, dif_pos ⟨by omega, by omega⟩]
    have h2 : y.data.toList[k]'(by rw [HLE.out]; exact hk) = l[k] := by simp only [HLE.out]
    rw [← h2]
    rfl
  have HIX := Aside0.mk hix
  clear hix
  go_loopg [6, 7] (m + 1) (fun kq v6 v7 w' => ∃ (k : Nat), v6 = .int .u32 ((num (l.take k) : Nat) : Int) ∧ v7 = .int .i64 (k : Int) ∧ Aside0 (kq + k = m + 1 ∧ k ≤ m) ∧ Aside0 (w' = w1))
  case atStart => exact ⟨0, rfl, rfl, ⟨by omega⟩, ⟨rfl⟩⟩
  case round =>
    obtain ⟨k, rfl, rfl, HK, HS2⟩ := hrel
    by_cases hk : k < m
    · have hkl : k < l.length := by have := HM.out; omega
      have hx := HIX.out k hkl
      have hn := num_take l k hkl
      have hb1 := num_lt (l.take k)
      have hb2 : num (l.take k) < 16777216 := by
        refine Nat.lt_of_lt_of_le hb1 ?_
        have : (l.take k).length ≤ 3 := by rw [List.length_take]; have := HM.out; omega
        calc 256 ^ (l.take k).length ≤ 256 ^ 3 := Nat.pow_le_pow_right (by decide) this
          _ = 16777216 := by decide
      have hc8 : l[k].toNat < 256 := l[k].toNat_lt
      have d1 : decide (k < m) = true := decide_eq_true hk
      have d2 : decide ((k : Int) < (m : Int)) = true := decide_eq_true (by omega)
      have y1 : (num (l.take k) : Int) < 16777216 := by omega
      have y2 : 0 ≤ (num (l.take k) : Int) := by omega
      have y3 : (l[k].toNat : Int) < 256 := by omega
      have y4 : (k : Int) ≤ 4 := by have := HM.out; omega
      have y5 : (k : Int) < (m : Int) := by omega
      have HKM := Aside0.mk hk
      clear hb1 hb2
      generalize l[k].toNat = cc at *
      generalize num (l.take k) = nn at *
      obtain ⟨n2, hn2⟩ : ∃ n2, num (l.take (k + 1)) = n2 := ⟨_, rfl⟩
      have HN2 := Aside0.mk hn2
      rw [hn2] at hn
      have HNN := Aside0.mk hn
      clear hn2 hn
      clear hk hkl hc8
      go_wp2
      go_roundg (gk - 1)
      case measure => have := HK.out; have := HKM.out; omega
      case rel => exact ⟨k + 1, by rw [HN2.out, HNN.out]; congr 1, by first | rfl | (simp; done), ⟨by have := HK.out; have := HKM.out; omega⟩, HS2⟩
    · obtain rfl : k = m := by have := HK.out; omega
      have d1 : decide (k < k) = false := decide_eq_false (by omega)
      clear hk
      go_wp2
      go_ret
      exact ⟨by rw [HLE.out, List.take_of_length_le (by have := HM.out; omega)]; rfl, HS2.out⟩
theorem ref_num (w : World) (s : ByteArray) (p m : Nat) (hp : p + m ≤ s.size) (hs : s.size ≤ 1000000) (h4 : m ≤ 4) :
    Calls Tryd.prog 56 #[.string s, .int .i64 (p : Int), .int .i64 (m : Int)] w fun e w' => e = .returned (.int .u32 (nat s p m)) ∧ Below w.heap.size w w' := by
  have hsr : ∀ W : World, (Instr.slice 9 (.string s) (some (.int .i64 (p : Int))) none none).run Tryd.prog W = .ok (.string (s.extract p s.size)) W := fun W => by
    rw [run_slice_string_from_if W 9 s .i64 (p : Int) Tryd.underlying9, if_pos (by omega), Int.toNat_natCast]
  have hx : (s.extract p s.size).extract 0 m = s.extract p (p + m) := by
    rw [ByteArray.extract_extract]
    congr 1
    omega
  have hl : (s.extract p s.size).size = s.size - p := by rw [ByteArray.size_extract]; omega
  have hb : (w.alloc (.cells #[.string (s.extract p s.size), .bool false] 104)).heap[w.heap.size]? = some (.cells #[.string (s.extract p s.size), .bool false] 104 (0, 0)) := by
    rw [show (w.alloc (.cells #[.string (s.extract p s.size), .bool false] 104)).heap = w.heap.push (.cells #[.string (s.extract p s.size), .bool false] 104) from rfl, Array.getElem?_push, if_pos rfl]
  have HC := Aside0.mk (ref_number _ _ _ m hb (by omega) (by omega) h4)
  rw [hx] at HC
  have HB := Aside0.mk ((Below.refl w.heap.size w).alloc (Nat.le_refl _) (.cells #[.string (s.extract p s.size), .bool false] 104))
  clear hb hl hx hp hs h4
  unfold nat
  generalize num (s.extract p (p + m)).data.toList = N at *
  go_enter Tryd.func56, Tryd.ntmps56
  go_wp2_with (go_at_call 68; (with_reducible refine HC.out.mono ?_); rintro e w1 ⟨rfl, rfl⟩)
  go_ret
  exact ⟨rfl, (Below.refl w.heap.size w).alloc (Nat.le_refl _) _⟩
end Go.Proofs.YtkcaifpmceoflaaDoor.Frm
namespace Go.Proofs.YtkcaifpmceoflaaDoor.Frm
open Go.RowKit Go.Proofs.YtkcaifpmceoflaaDoorW.PrintWords Go.Proofs.YtkcaifpmceoflaaDoorW.PrintLast Go.Proofs.YtkcaifpmceoflaaDoorW.PrintMore
set_option linter.unusedVariables false
set_option linter.unusedSimpArgs false
set_option maxRecDepth 100000 in
theorem err_len (w : World) (s : ByteArray) (hs : s.size ≤ 1000000) (h : ¬ isLen s) :
    Calls Tryd.prog 17 #[.string s] w fun e w' => e = .returned (.int .i64 10) ∧ Below w.heap.size w w' := by
  have z1 := (nat_rng s 1 1).1
  have z2 : nat s 1 1 < 256 := (nat_rng s 1 1).2
  unfold isLen at h
  by_cases e1 : s.size < 17
  · have d1 : decide ((s.size : Int) < 17) = true := decide_eq_true (by omega)
    clear h e1
    go_enter Tryd.func17, Tryd.ntmps17
    go_wp2
    go_ret
    exact ⟨rfl, Below.refl _ _⟩
  · have d1 : decide ((s.size : Int) < 17) = false := decide_eq_false (by omega)
    have hx := idx1 s (by omega)
    have d3 : ((s.size : Int) != nat s 1 1) = true := bne_iff_ne.2 (by omega)
    clear h e1
    go_enter Tryd.func17, Tryd.ntmps17
    go_wp2
    go_ret
    exact ⟨rfl, Below.refl _ _⟩
theorem rsealed_f (w : World) (x : ByteArray) (hx : x.size ≤ 1000000) : Calls Tryd.prog 19 #[.string x] w fun e w' => e = .returned (.string (x ++ two8 (crc x))) ∧ Below w.heap.size w w' :=
  Own.fuglemanref01_Sealed.calls _ x _ w (ref_sealed x hx)
set_option maxRecDepth 100000 in
theorem err_crc (w : World) (s : ByteArray) (h : isLen s) (hc : crc s ≠ 0#16) :
    Calls Tryd.prog 17 #[.string s] w fun e w' => e = .returned (.int .i64 9) ∧ Below w.heap.size w w' := by
  have z1 := (nat_rng s 1 1).1
  have z2 : nat s 1 1 < 256 := (nat_rng s 1 1).2
  unfold isLen at h
  have d1 : decide ((s.size : Int) < 17) = false := decide_eq_false (by omega)
  have hx := idx1 s (by omega)
  have d3 : ((s.size : Int) != nat s 1 1) = false := bne_eq_false_iff_eq.2 h.2.2.symm
  have hsl : ∀ W : World, (Instr.slice 9 (.string s) none (some (.int .i64 ((s.size : Int) - 2))) none).run Tryd.prog W = .ok (.string (s.extract 0 (s.size - 2))) W := fun W => by
    rw [run_slice_string_to_if W 9 s .i64 ((s.size : Int) - 2) Tryd.underlying9, if_pos (by omega), show ((s.size : Int) - 2).toNat = s.size - 2 by omega]
  have HS := Aside0.mk fun W : World => rsealed_f W (s.extract 0 (s.size - 2)) (by rw [ByteArray.size_extract]; omega)
  have hne : (s.extract 0 (s.size - 2) ++ two8 (crc (s.extract 0 (s.size - 2)))) ≠ s := fun e => hc ((sealed_iff s (by omega)).1 e)
  have y1 : 17 ≤ (s.size : Int) := by omega
  have y2 : (s.size : Int) ≤ 255 := by omega
  generalize s.extract 0 (s.size - 2) ++ two8 (crc (s.extract 0 (s.size - 2))) = r at *
  generalize s.extract 0 (s.size - 2) = x at *
  have hne2 : (r.toList == s.toList) = false := by
    rw [Lib.toList_data, Lib.toList_data]
    exact beq_eq_false_iff_ne.2 (fun e => hne (ByteArray.ext (Array.toList_inj.1 e)))
  have hne3 : (r.data.toList == s.data.toList) = false := by
    exact beq_eq_false_iff_ne.2 (fun e => hne (ByteArray.ext (Array.toList_inj.1 e)))
  have HB := Aside0.mk (Below.refl w.heap.size w)
  clear h hc
  go_enter Tryd.func17, Tryd.ntmps17
  go_wp2_with (go_at_call 19; (with_reducible refine (HS.out _).mono ?_); rintro e w1 ⟨rfl, hb⟩; have HB1 := Aside0.mk hb; clear hb)
  go_ret
  exact ⟨rfl, HB1.out⟩
set_option maxRecDepth 100000 in
theorem err_kind_lo (w : World) (s : ByteArray) (h : isLen s) (hc : crc s = 0#16) (hk : nat s 0 1 < 1) :
    Calls Tryd.prog 17 #[.string s] w fun e w' => e = .returned (.int .i64 11) ∧ Below w.heap.size w w' := by
  have z1 := (nat_rng s 1 1).1
  have z2 : nat s 1 1 < 256 := (nat_rng s 1 1).2
  have z3 := (nat_rng s 0 1).1
  have z4 : nat s 0 1 < 256 := (nat_rng s 0 1).2
  unfold isLen at h
  have d1 : decide ((s.size : Int) < 17) = false := decide_eq_false (by omega)
  have hx := idx1 s (by omega)
  have hx0 := idx0 s (by omega)
  have d3 : ((s.size : Int) != nat s 1 1) = false := bne_eq_false_iff_eq.2 h.2.2.symm
  have hsl : ∀ W : World, (Instr.slice 9 (.string s) none (some (.int .i64 ((s.size : Int) - 2))) none).run Tryd.prog W = .ok (.string (s.extract 0 (s.size - 2))) W := fun W => by
    rw [run_slice_string_to_if W 9 s .i64 ((s.size : Int) - 2) Tryd.underlying9, if_pos (by omega), show ((s.size : Int) - 2).toNat = s.size - 2 by omega]
  have HS := Aside0.mk fun W : World => rsealed_f W (s.extract 0 (s.size - 2)) (by rw [ByteArray.size_extract]; omega)
  rw [(sealed_iff s (by omega)).2 hc] at HS
  have y1 : 17 ≤ (s.size : Int) := by omega
  have y2 : (s.size : Int) ≤ 255 := by omega
  generalize s.extract 0 (s.size - 2) = x at *
  have hne2 : (s.toList == s.toList) = true := beq_self_eq_true _
  have hne3 : (s.data.toList == s.data.toList) = true := beq_self_eq_true _
  have HB := Aside0.mk (Below.refl w.heap.size w)
  have k1 : decide (nat s 0 1 < 1) = true := decide_eq_true hk
  clear h hc hk
  go_enter Tryd.func17, Tryd.ntmps17
  go_wp2_with (go_at_call 19; (with_reducible refine (HS.out _).mono ?_); rintro e w1 ⟨rfl, hb⟩; have HB1 := Aside0.mk hb; clear hb)
  go_ret
  exact ⟨rfl, HB1.out⟩
set_option maxRecDepth 100000 in
theorem err_kind_hi (w : World) (s : ByteArray) (h : isLen s) (hc : crc s = 0#16) (hk : 5 < nat s 0 1) :
    Calls Tryd.prog 17 #[.string s] w fun e w' => e = .returned (.int .i64 11) ∧ Below w.heap.size w w' := by
  have z1 := (nat_rng s 1 1).1
  have z2 : nat s 1 1 < 256 := (nat_rng s 1 1).2
  have z3 := (nat_rng s 0 1).1
  have z4 : nat s 0 1 < 256 := (nat_rng s 0 1).2
  unfold isLen at h
  have d1 : decide ((s.size : Int) < 17) = false := decide_eq_false (by omega)
  have hx := idx1 s (by omega)
  have hx0 := idx0 s (by omega)
  have d3 : ((s.size : Int) != nat s 1 1) = false := bne_eq_false_iff_eq.2 h.2.2.symm
  have hsl : ∀ W : World, (Instr.slice 9 (.string s) none (some (.int .i64 ((s.size : Int) - 2))) none).run Tryd.prog W = .ok (.string (s.extract 0 (s.size - 2))) W := fun W => by
    rw [run_slice_string_to_if W 9 s .i64 ((s.size : Int) - 2) Tryd.underlying9, if_pos (by omega), show ((s.size : Int) - 2).toNat = s.size - 2 by omega]
  have HS := Aside0.mk fun W : World => rsealed_f W (s.extract 0 (s.size - 2)) (by rw [ByteArray.size_extract]; omega)
  rw [(sealed_iff s (by omega)).2 hc] at HS
  have y1 : 17 ≤ (s.size : Int) := by omega
  have y2 : (s.size : Int) ≤ 255 := by omega
  generalize s.extract 0 (s.size - 2) = x at *
  have hne2 : (s.toList == s.toList) = true := beq_self_eq_true _
  have hne3 : (s.data.toList == s.data.toList) = true := beq_self_eq_true _
  have HB := Aside0.mk (Below.refl w.heap.size w)
  have k1 : decide (nat s 0 1 < 1) = false := decide_eq_false (by omega)
  have k2 : decide (5 < nat s 0 1) = true := decide_eq_true hk
  clear h hc hk
  go_enter Tryd.func17, Tryd.ntmps17
  go_wp2_with (go_at_call 19; (with_reducible refine (HS.out _).mono ?_); rintro e w1 ⟨rfl, hb⟩; have HB1 := Aside0.mk hb; clear hb)
  go_ret
  exact ⟨rfl, HB1.out⟩
set_option maxRecDepth 100000 in
theorem err_data_lo (w : World) (s : ByteArray) (h : isLen s) (hc : crc s = 0#16) (hk : nat s 0 1 = 4) (hz : s.size < 27) :
    Calls Tryd.prog 17 #[.string s] w fun e w' => e = .returned (.int .i64 10) ∧ Below w.heap.size w w' := by
  have z1 := (nat_rng s 1 1).1
  have z2 : nat s 1 1 < 256 := (nat_rng s 1 1).2
  have z3 := (nat_rng s 0 1).1
  have z4 : nat s 0 1 < 256 := (nat_rng s 0 1).2
  unfold isLen at h
  have d1 : decide ((s.size : Int) < 17) = false := decide_eq_false (by omega)
  have hx := idx1 s (by omega)
  have hx0 := idx0 s (by omega)
  have d3 : ((s.size : Int) != nat s 1 1) = false := bne_eq_false_iff_eq.2 h.2.2.symm
  have hsl : ∀ W : World, (Instr.slice 9 (.string s) none (some (.int .i64 ((s.size : Int) - 2))) none).run Tryd.prog W = .ok (.string (s.extract 0 (s.size - 2))) W := fun W => by
    rw [run_slice_string_to_if W 9 s .i64 ((s.size : Int) - 2) Tryd.underlying9, if_pos (by omega), show ((s.size : Int) - 2).toNat = s.size - 2 by omega]
  have HS := Aside0.mk fun W : World => rsealed_f W (s.extract 0 (s.size - 2)) (by rw [ByteArray.size_extract]; omega)
  rw [(sealed_iff s (by omega)).2 hc] at HS
  have y1 : 17 ≤ (s.size : Int) := by omega
  have y2 : (s.size : Int) ≤ 255 := by omega
  generalize s.extract 0 (s.size - 2) = x at *
  have hne2 : (s.toList == s.toList) = true := beq_self_eq_true _
  have hne3 : (s.data.toList == s.data.toList) = true := beq_self_eq_true _
  have HB := Aside0.mk (Below.refl w.heap.size w)
  have k1 : decide (nat s 0 1 < 1) = false := decide_eq_false (by omega)
  have k2 : decide (5 < nat s 0 1) = false := decide_eq_false (by omega)
  have k3 : (nat s 0 1 == 4) = true := beq_iff_eq.2 hk
  have k4 : decide ((s.size : Int) < 27) = true := decide_eq_true (by omega)
  clear h hc hk hz
  go_enter Tryd.func17, Tryd.ntmps17
  go_wp2_with (go_at_call 19; (with_reducible refine (HS.out _).mono ?_); rintro e w1 ⟨rfl, hb⟩; have HB1 := Aside0.mk hb; clear hb)
  go_ret
  exact ⟨rfl, HB1.out⟩
set_option maxRecDepth 100000 in
theorem err_data_hi (w : World) (s : ByteArray) (h : isLen s) (hc : crc s = 0#16) (hk : nat s 0 1 = 4) (hz : 42 < s.size) :
    Calls Tryd.prog 17 #[.string s] w fun e w' => e = .returned (.int .i64 10) ∧ Below w.heap.size w w' := by
  have z1 := (nat_rng s 1 1).1
  have z2 : nat s 1 1 < 256 := (nat_rng s 1 1).2
  have z3 := (nat_rng s 0 1).1
  have z4 : nat s 0 1 < 256 := (nat_rng s 0 1).2
  unfold isLen at h
  have d1 : decide ((s.size : Int) < 17) = false := decide_eq_false (by omega)
  have hx := idx1 s (by omega)
  have hx0 := idx0 s (by omega)
  have d3 : ((s.size : Int) != nat s 1 1) = false := bne_eq_false_iff_eq.2 h.2.2.symm
  have hsl : ∀ W : World, (Instr.slice 9 (.string s) none (some (.int .i64 ((s.size : Int) - 2))) none).run Tryd.prog W = .ok (.string (s.extract 0 (s.size - 2))) W := fun W => by
    rw [run_slice_string_to_if W 9 s .i64 ((s.size : Int) - 2) Tryd.underlying9, if_pos (by omega), show ((s.size : Int) - 2).toNat = s.size - 2 by omega]
  have HS := Aside0.mk fun W : World => rsealed_f W (s.extract 0 (s.size - 2)) (by rw [ByteArray.size_extract]; omega)
  rw [(sealed_iff s (by omega)).2 hc] at HS
  have y1 : 17 ≤ (s.size : Int) := by omega
  have y2 : (s.size : Int) ≤ 255 := by omega
  generalize s.extract 0 (s.size - 2) = x at *
  have hne2 : (s.toList == s.toList) = true := beq_self_eq_true _
  have hne3 : (s.data.toList == s.data.toList) = true := beq_self_eq_true _
  have HB := Aside0.mk (Below.refl w.heap.size w)
  have k1 : decide (nat s 0 1 < 1) = false := decide_eq_false (by omega)
  have k2 : decide (5 < nat s 0 1) = false := decide_eq_false (by omega)
  have k3 : (nat s 0 1 == 4) = true := beq_iff_eq.2 hk
  have k4 : decide ((s.size : Int) < 27) = false := decide_eq_false (by omega)
  have k5 : decide (42 < (s.size : Int)) = true := decide_eq_true (by omega)
  clear h hc hk hz
  go_enter Tryd.func17, Tryd.ntmps17
  go_wp2_with (go_at_call 19; (with_reducible refine (HS.out _).mono ?_); rintro e w1 ⟨rfl, hb⟩; have HB1 := Aside0.mk hb; clear hb)
  go_ret
  exact ⟨rfl, HB1.out⟩
set_option maxRecDepth 100000 in
theorem err_stat (w : World) (s : ByteArray) (h : isLen s) (hc : crc s = 0#16) (hk : nat s 0 1 = 3) (hz : s.size ≠ 23) :
    Calls Tryd.prog 17 #[.string s] w fun e w' => e = .returned (.int .i64 10) ∧ Below w.heap.size w w' := by
  have z1 := (nat_rng s 1 1).1
  have z2 : nat s 1 1 < 256 := (nat_rng s 1 1).2
  have z3 := (nat_rng s 0 1).1
  have z4 : nat s 0 1 < 256 := (nat_rng s 0 1).2
  unfold isLen at h
  have d1 : decide ((s.size : Int) < 17) = false := decide_eq_false (by omega)
  have hx := idx1 s (by omega)
  have hx0 := idx0 s (by omega)
  have d3 : ((s.size : Int) != nat s 1 1) = false := bne_eq_false_iff_eq.2 h.2.2.symm
  have hsl : ∀ W : World, (Instr.slice 9 (.string s) none (some (.int .i64 ((s.size : Int) - 2))) none).run Tryd.prog W = .ok (.string (s.extract 0 (s.size - 2))) W := fun W => by
    rw [run_slice_string_to_if W 9 s .i64 ((s.size : Int) - 2) Tryd.underlying9, if_pos (by omega), show ((s.size : Int) - 2).toNat = s.size - 2 by omega]
  have HS := Aside0.mk fun W : World => rsealed_f W (s.extract 0 (s.size - 2)) (by rw [ByteArray.size_extract]; omega)
  rw [(sealed_iff s (by omega)).2 hc] at HS
  have y1 : 17 ≤ (s.size : Int) := by omega
  have y2 : (s.size : Int) ≤ 255 := by omega
  generalize s.extract 0 (s.size - 2) = x at *
  have hne2 : (s.toList == s.toList) = true := beq_self_eq_true _
  have hne3 : (s.data.toList == s.data.toList) = true := beq_self_eq_true _
  have HB := Aside0.mk (Below.refl w.heap.size w)
  have k1 : decide (nat s 0 1 < 1) = false := decide_eq_false (by omega)
  have k2 : decide (5 < nat s 0 1) = false := decide_eq_false (by omega)
  have k3 : (nat s 0 1 == 4) = false := beq_eq_false_iff_ne.2 (by omega)
  have k4 : (nat s 0 1 == 3) = true := beq_iff_eq.2 hk
  have k5 : ((s.size : Int) != 23) = true := bne_iff_ne.2 (by omega)
  clear h hc hk hz
  go_enter Tryd.func17, Tryd.ntmps17
  go_wp2_with (go_at_call 19; (with_reducible refine (HS.out _).mono ?_); rintro e w1 ⟨rfl, hb⟩; have HB1 := Aside0.mk hb; clear hb)
  go_ret
  exact ⟨rfl, HB1.out⟩
set_option maxRecDepth 100000 in
theorem err_plain (w : World) (s : ByteArray) (h : isLen s) (hc : crc s = 0#16) (hk : 1 ≤ nat s 0 1 ∧ nat s 0 1 ≤ 5 ∧ nat s 0 1 ≠ 3 ∧ nat s 0 1 ≠ 4) (hz : s.size ≠ 17) :
    Calls Tryd.prog 17 #[.string s] w fun e w' => e = .returned (.int .i64 10) ∧ Below w.heap.size w w' := by
  have z1 := (nat_rng s 1 1).1
  have z2 : nat s 1 1 < 256 := (nat_rng s 1 1).2
  have z3 := (nat_rng s 0 1).1
  have z4 : nat s 0 1 < 256 := (nat_rng s 0 1).2
  unfold isLen at h
  have d1 : decide ((s.size : Int) < 17) = false := decide_eq_false (by omega)
  have hx := idx1 s (by omega)
  have hx0 := idx0 s (by omega)
  have d3 : ((s.size : Int) != nat s 1 1) = false := bne_eq_false_iff_eq.2 h.2.2.symm
  have hsl : ∀ W : World, (Instr.slice 9 (.string s) none (some (.int .i64 ((s.size : Int) - 2))) none).run Tryd.prog W = .ok (.string (s.extract 0 (s.size - 2))) W := fun W => by
    rw [run_slice_string_to_if W 9 s .i64 ((s.size : Int) - 2) Tryd.underlying9, if_pos (by omega), show ((s.size : Int) - 2).toNat = s.size - 2 by omega]
  have HS := Aside0.mk fun W : World => rsealed_f W (s.extract 0 (s.size - 2)) (by rw [ByteArray.size_extract]; omega)
  rw [(sealed_iff s (by omega)).2 hc] at HS
  have y1 : 17 ≤ (s.size : Int) := by omega
  have y2 : (s.size : Int) ≤ 255 := by omega
  generalize s.extract 0 (s.size - 2) = x at *
  have hne2 : (s.toList == s.toList) = true := beq_self_eq_true _
  have hne3 : (s.data.toList == s.data.toList) = true := beq_self_eq_true _
  have HB := Aside0.mk (Below.refl w.heap.size w)
  have k1 : decide (nat s 0 1 < 1) = false := decide_eq_false (by omega)
  have k2 : decide (5 < nat s 0 1) = false := decide_eq_false (by omega)
  have k3 : (nat s 0 1 == 4) = false := beq_eq_false_iff_ne.2 (by omega)
  have k4 : (nat s 0 1 == 3) = false := beq_eq_false_iff_ne.2 (by omega)
  have k6 : (nat s 0 1 != 3) = true := bne_iff_ne.2 (by omega)
  have k5 : ((s.size : Int) != 17) = true := bne_iff_ne.2 (by omega)
  clear h hc hk hz
  go_enter Tryd.func17, Tryd.ntmps17
  go_wp2_with (go_at_call 19; (with_reducible refine (HS.out _).mono ?_); rintro e w1 ⟨rfl, hb⟩; have HB1 := Aside0.mk hb; clear hb)
  go_ret
  exact ⟨rfl, HB1.out⟩
end Go.Proofs.YtkcaifpmceoflaaDoor.Frm

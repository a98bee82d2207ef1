/- The walk of frame.Decode. Conditions: those that each statement names. -/
import Derived.Test.YtkcaifpmceoflaaDoorRead
import Derived.Test.YtkcaifpmceoflaaDoorFrame1
namespace Go.Proofs.YtkcaifpmceoflaaDoor.Frm
open Go.RowKit Go.Proofs.YtkcaifpmceoflaaDoorW.PrintWords Go.Proofs.YtkcaifpmceoflaaDoorW.PrintLast Go.Proofs.YtkcaifpmceoflaaDoorW.PrintMore
attribute [local go_sem ↓] execOp_ld29
set_option linter.unusedVariables false
set_option linter.unusedSimpArgs false
theorem nat_one (s : ByteArray) (i : Nat) (h : i < s.size) : nat s i 1 = (s[i].toNat : Int) := by
  have hl : (s.extract i (i + 1)).data.toList = [s[i]] := by
    apply List.ext_getElem
    · rw [Array.length_toList]
      show (s.extract i (i + 1)).size = 1
      rw [ByteArray.size_extract]
      omega
    · intro j h1 h2
      obtain rfl : j = 0 := by simpa using h2
      have e : (s.extract i (i + 1)).data.toList[0] = (s.extract i (i + 1))[0]'(by rw [ByteArray.size_extract]; omega) := rfl
      rw [e, ByteArray.getElem_extract]
      rfl
  unfold nat
  rw [hl]
  simp [num]
theorem idx (s : ByteArray) (i : Nat) (h : i < s.size) (W : World) : (Instr.index 9 (.string s) (.int .i64 (i : Int))).run Tryd.prog W = .ok (.int .u8 (nat s i 1)) W := by
  rw [nat_one s i h]
  rw [run_index_string W 9 s .i64 (i : Int) Tryd.underlying9, dif_pos ⟨by omega, by omega⟩]
  simp
theorem idx1 (s : ByteArray) (h : 1 < s.size) (W : World) : (Instr.index 9 (.string s) (.int .i64 1)).run Tryd.prog W = .ok (.int .u8 (nat s 1 1)) W := idx s 1 h W
theorem idx0 (s : ByteArray) (h : 0 < s.size) (W : World) : (Instr.index 9 (.string s) (.int .i64 0)).run Tryd.prog W = .ok (.int .u8 (nat s 0 1)) W := idx s 0 h W
structure Dc (w0 w : World) (R : Nat) : Prop where
  res : FAt w R fz
  below : Below w0.heap.size w0 w
  lo : w0.heap.size ≤ R
theorem Dc.on {w0 w w' : World} {R : Nat} (h : Dc w0 w R) (hb : Below w.heap.size w w') : Dc w0 w' R := ⟨h.res.on hb h.res.lt, h.below.trans (hb.mono h.below.size), h.lo⟩
theorem Dc.drawn {w0 w w' : World} {R : Nat} (h : Dc w0 w R) (d : Drawn0 w w') : Dc w0 w' R := by
  obtain ⟨n, rfl⟩ := d
  exact h.on ⟨rfl, rfl, rfl, Nat.le_refl _, fun _ _ => rfl⟩
theorem Dc.last {w0 w : World} {R : Nat} (h : Dc w0 w R) (cs : Array Value) : Below w0.heap.size w0 (w.setRow R cs) :=
  h.below.trans ⟨rfl, rfl, rfl, by rw [setRow_size]; exact Nat.le_refl _, fun k hk => setRow_other _ _ _ _ (by have := h.lo; omega)⟩
theorem Dc.start {w W0 : World} (h : FAt W0 w.heap.size fz) (hb : Below w.heap.size w W0) : Dc w W0 w.heap.size := ⟨h, hb, Nat.le_refl _⟩
theorem xs_new {w0 w : World} {R : Nat} (h : Dc w0 w R) (n : ByteArray) (t : Bool) (a b : Int) : ∃ W, w.alloc (.cells #[.string n, .bool t, .int .i64 a, .int .i64 b] 56) = W ∧ W.cell? ⟨w.heap.size, 2, none⟩ = some (.int .i64 a) ∧ W.cell? ⟨w.heap.size, 3, none⟩ = some (.int .i64 b) ∧ Dc w0 W R := by
  have hb : (w.alloc (.cells #[.string n, .bool t, .int .i64 a, .int .i64 b] 56)).heap[w.heap.size]? = some (.cells #[.string n, .bool t, .int .i64 a, .int .i64 b] 56 (0, 0)) := by
    rw [show (w.alloc (.cells #[.string n, .bool t, .int .i64 a, .int .i64 b] 56)).heap = w.heap.push (.cells #[.string n, .bool t, .int .i64 a, .int .i64 b] 56) from rfl, Array.getElem?_push, if_pos rfl]
  exact ⟨_, rfl, blk_cell hb 2, blk_cell hb 3, h.on ((Below.refl _ _).alloc (Nat.le_refl _) _)⟩
/-- A new frame in memory, stored whole. -/
theorem fr_new {w0 w : World} {R : Nat} (h : Dc w0 w R) (f : Fr) : ∃ W, (w.alloc (.cells #[.int .i64 0, .int .u8 0, .int .u8 0, .int .u16 0, .int .u16 0, .int .u16 0, .int .u8 0, .int .u16 0, .int .u16 0, .int .u16 0, .int .u8 0, .int .u16 0, .bool false, .int .u8 0, .int .u16 0, .int .u32 0, .int .u8 0, .int .u8 0, .string ⟨#[]⟩] 29)).setRow w.heap.size (FC f) = W ∧ (w.alloc (.cells #[.int .i64 0, .int .u8 0, .int .u8 0, .int .u16 0, .int .u16 0, .int .u16 0, .int .u8 0, .int .u16 0, .int .u16 0, .int .u16 0, .int .u8 0, .int .u16 0, .bool false, .int .u8 0, .int .u16 0, .int .u32 0, .int .u8 0, .int .u8 0, .string ⟨#[]⟩] 29)).heap[w.heap.size]? = some (.cells #[.int .i64 0, .int .u8 0, .int .u8 0, .int .u16 0, .int .u16 0, .int .u16 0, .int .u8 0, .int .u16 0, .int .u16 0, .int .u16 0, .int .u8 0, .int .u16 0, .bool false, .int .u8 0, .int .u16 0, .int .u32 0, .int .u8 0, .int .u8 0, .string ⟨#[]⟩] 29 (0, 0)) ∧ FAt W w.heap.size f ∧ Dc w0 W R := by
  have h0 : (w.alloc (.cells #[.int .i64 0, .int .u8 0, .int .u8 0, .int .u16 0, .int .u16 0, .int .u16 0, .int .u8 0, .int .u16 0, .int .u16 0, .int .u16 0, .int .u8 0, .int .u16 0, .bool false, .int .u8 0, .int .u16 0, .int .u32 0, .int .u8 0, .int .u8 0, .string ⟨#[]⟩] 29)).heap[w.heap.size]? = some (.cells #[.int .i64 0, .int .u8 0, .int .u8 0, .int .u16 0, .int .u16 0, .int .u16 0, .int .u8 0, .int .u16 0, .int .u16 0, .int .u16 0, .int .u8 0, .int .u16 0, .bool false, .int .u8 0, .int .u16 0, .int .u32 0, .int .u8 0, .int .u8 0, .string ⟨#[]⟩] 29 (0, 0)) := FAt.new w fz
  have h1 := h.on (w' := w.alloc (.cells #[.int .i64 0, .int .u8 0, .int .u8 0, .int .u16 0, .int .u16 0, .int .u16 0, .int .u8 0, .int .u16 0, .int .u16 0, .int .u16 0, .int .u8 0, .int .u16 0, .bool false, .int .u8 0, .int .u16 0, .int .u32 0, .int .u8 0, .int .u8 0, .string ⟨#[]⟩] 29)) ((Below.refl _ _).alloc (Nat.le_refl _) _)
  refine ⟨_, rfl, h0, setRow_heap _ _ _ _ _ _ h0, ⟨?_, ?_, h.lo⟩⟩
  · exact (setRow_other _ _ _ _ (Nat.ne_of_lt h.res.lt)).trans h1.res
  · refine h1.below.trans ⟨rfl, rfl, rfl, ?_, fun k hk => setRow_other _ _ _ _ (by have := h.below.size; omega)⟩
    rw [setRow_size]
    exact Nat.le_refl _
theorem dec_end {w : World} {R : Nat} {f : Fr} (h : FAt w R fz) (b : Int) (tmps : Array Value) (h2 : tmps.getD 2 undef = .pointer (some ⟨R, 0, none⟩)) (h3 : tmps.getD 3 undef = .int .i64 b) :
    (results Tryd.f15 tmps).run Tryd.prog (w.setRow R (FC f)) = .ok (.tuple #[.agg (FC f), .int .i64 b]) (w.setRow R (FC f)) := by
  have h2' : tmps[2]?.getD undef = .pointer (some ⟨R, 0, none⟩) := by simpa using h2
  have h3' : tmps[3]?.getD undef = .int .i64 b := by simpa using h3
  have hl := run_loadVar_row (P := Tryd.prog) (w.setRow R (FC f)) R 29 29 (FC f) (0, 0) _ (setRow_heap _ _ _ _ _ _ h) Tryd.underlying29 rfl (by kernel_rfl)
  simp [results, Tryd.results15, h2', h3', asAddr, hl]
theorem sh_tok : Own.frame_shapes.f 1 = some (⟨#[116, 111, 107, 101, 110]⟩, true, 17, 17, true) := by unfold Own.frame_shapes.f; rw [if_pos rfl]
theorem open_f (w : World) (s y : ByteArray) (o : Bool) (K : Nat) (h : Own.crc_Open.f K s = some (y, o)) : Calls Tryd.prog 37 #[.string s] w fun e w' => e = .returned (.tuple #[.string y, .bool o]) ∧ Drawn0 w w' := Own.crc_Open.calls K s y o w h
set_option maxRecDepth 100000 in
set_option maxHeartbeats 2000000 in
theorem dec_len (w : World) (s : ByteArray) (hs : s.size ≤ 1000000) (h : ¬ (17 ≤ s.size ∧ s.size ≤ 255 ∧ nat s 1 1 = s.size)) :
    Calls Tryd.prog 15 #[.string s] w fun e w' => e = .returned (.tuple #[.agg (FC fz), .int .i64 10]) ∧ Below w.heap.size w w' := by
  obtain ⟨W0, hW0, hN, hB⟩ := rd_new w
  have HD := Aside0.mk (Dc.start hN hB)
  clear hN hB
  clear hs
  go_enter Tryd.func15, Tryd.ntmps15
  go_upto_region 1 with (fail)
  try rw [hW0]
  clear hW0
  generalize w.heap.size = R at *
  go_upto_region 2 with (go_at_call 29; (with_reducible refine (shapes_f 1 _ _ _ _ _ _ sh_tok).mono ?_); rintro e w1 ⟨rfl, hb⟩; obtain ⟨W1, hW1, x2, x3, hd⟩ := xs_new (HD.out.on hb) ⟨#[116, 111, 107, 101, 110]⟩ true 17 17; clear HD hb; have HD := Aside0.mk hd; clear hd)
  clear hW1
  generalize w1.heap.size = X at *
  by_cases e1 : s.size < 17
  · have d1 : decide ((s.size : Int) < 17) = true := decide_eq_true (by omega)
    clear h e1
    go_wp2_with (((with_reducible refine gate_store (t := 29) (p := 2) rfl ?_); refine wpList_store_row rfl 29 (.tmp 2) (.tmp 32) rfl R (FC (fz)) rfl rfl 29 (FC fz) HD.out.res (by kernel_rfl) rfl (fc_one _) ?_))
    exact bodyPost_ret (dec_end HD.out.res 10 _ rfl rfl) rfl ⟨rfl, HD.out.last _⟩
  · have d1 : decide ((s.size : Int) < 17) = false := decide_eq_false (by omega)
    by_cases e2 : 255 < s.size
    · have d2 : decide (255 < (s.size : Int)) = true := decide_eq_true (by omega)
      clear h e1 e2
      go_wp2_with (((with_reducible refine gate_store (t := 29) (p := 2) rfl ?_); refine wpList_store_row rfl 29 (.tmp 2) (.tmp 32) rfl R (FC (fz)) rfl rfl 29 (FC fz) HD.out.res (by kernel_rfl) rfl (fc_one _) ?_))
      exact bodyPost_ret (dec_end HD.out.res 10 _ rfl rfl) rfl ⟨rfl, HD.out.last _⟩
    · have d2 : decide (255 < (s.size : Int)) = false := decide_eq_false (by omega)
      have hx := idx1 s (by omega)
      have z1 := (nat_rng s 1 1).1
      have z2 : nat s 1 1 < 256 := (nat_rng s 1 1).2
      have d3 : ((s.size : Int) != nat s 1 1) = true := bne_iff_ne.2 (by omega)
      have y1 : (s.size : Int) ≤ 255 := by omega
      clear h e1 e2
      go_wp2_with (((with_reducible refine gate_store (t := 29) (p := 2) rfl ?_); refine wpList_store_row rfl 29 (.tmp 2) (.tmp 32) rfl R (FC (fz)) rfl rfl 29 (FC fz) HD.out.res (by kernel_rfl) rfl (fc_one _) ?_))
      exact bodyPost_ret (dec_end HD.out.res 10 _ rfl rfl) rfl ⟨rfl, HD.out.last _⟩
def isLen (s : ByteArray) : Prop := 17 ≤ s.size ∧ s.size ≤ 255 ∧ nat s 1 1 = s.size
set_option maxRecDepth 100000 in
set_option maxHeartbeats 2000000 in
theorem dec_crc (w : World) (s y : ByteArray) (K : Nat) (h : isLen s) (ho : Own.crc_Open.f K s = some (y, false)) :
    Calls Tryd.prog 15 #[.string s] w fun e w' => e = .returned (.tuple #[.agg (FC fz), .int .i64 9]) ∧ Below w.heap.size w w' := by
  unfold isLen at h
  obtain ⟨W0, hW0, hN, hB⟩ := rd_new w
  have HD := Aside0.mk (Dc.start hN hB)
  clear hN hB
  have hx := idx1 s (by omega)
  have hx0 := idx0 s (by omega)
  have z1 := (nat_rng s 1 1).1
  have z2 : nat s 1 1 < 256 := (nat_rng s 1 1).2
  have z3 := (nat_rng s 0 1).1
  have z4 : nat s 0 1 < 256 := (nat_rng s 0 1).2
  have d1 : decide ((s.size : Int) < 17) = false := decide_eq_false (by omega)
  have d2 : decide (255 < (s.size : Int)) = false := decide_eq_false (by omega)
  have d3 : ((s.size : Int) != nat s 1 1) = false := bne_eq_false_iff_eq.2 h.2.2.symm
  have y1 : (s.size : Int) ≤ 255 := by omega
  have HO := Aside0.mk ho
  clear h ho
  go_enter Tryd.func15, Tryd.ntmps15
  go_upto_region 1 with (fail)
  try rw [hW0]
  clear hW0
  generalize w.heap.size = R at *
  go_upto_region 2 with (go_at_call 29; (with_reducible refine (shapes_f 1 _ _ _ _ _ _ sh_tok).mono ?_); rintro e w1 ⟨rfl, hb⟩; obtain ⟨W1, hW1, x2, x3, hd⟩ := xs_new (HD.out.on hb) ⟨#[116, 111, 107, 101, 110]⟩ true 17 17; clear HD hb; have HD := Aside0.mk hd; clear hd)
  clear hW1
  generalize w1.heap.size = X at *
  go_wp2_with (first | (go_at_call 37; (with_reducible refine (open_f _ s y _ K HO.out).mono ?_); rintro e w2 ⟨rfl, hd⟩; have n0_ := Aside0.mk (HD.out.drawn hd); clear HD hd x2 x3; have HD := n0_; clear n0_) | ((with_reducible refine gate_store (t := 29) (p := 2) rfl ?_); refine wpList_store_row rfl 29 (.tmp 2) (.tmp 40) rfl R (FC (fz)) rfl rfl 29 (FC fz) HD.out.res (by kernel_rfl) rfl (fc_one _) ?_))
  exact bodyPost_ret (dec_end HD.out.res 9 _ rfl rfl) rfl ⟨rfl, HD.out.last _⟩
set_option maxRecDepth 100000 in
set_option maxHeartbeats 2000000 in
theorem dec_kind (w : World) (s y : ByteArray) (K : Nat) (h : isLen s) (ho : Own.crc_Open.f K s = some (y, true)) (n : ByteArray) (tt : Bool) (a b : Int) (hk : Own.frame_shapes.f (nat s 0 1) = some (n, tt, a, b, false)) :
    Calls Tryd.prog 15 #[.string s] w fun e w' => e = .returned (.tuple #[.agg (FC fz), .int .i64 11]) ∧ Below w.heap.size w w' := by
  unfold isLen at h
  obtain ⟨W0, hW0, hN, hB⟩ := rd_new w
  have HD := Aside0.mk (Dc.start hN hB)
  clear hN hB
  have hx := idx1 s (by omega)
  have hx0 := idx0 s (by omega)
  have z1 := (nat_rng s 1 1).1
  have z2 : nat s 1 1 < 256 := (nat_rng s 1 1).2
  have z3 := (nat_rng s 0 1).1
  have z4 : nat s 0 1 < 256 := (nat_rng s 0 1).2
  have d1 : decide ((s.size : Int) < 17) = false := decide_eq_false (by omega)
  have d2 : decide (255 < (s.size : Int)) = false := decide_eq_false (by omega)
  have d3 : ((s.size : Int) != nat s 1 1) = false := bne_eq_false_iff_eq.2 h.2.2.symm
  have y1 : (s.size : Int) ≤ 255 := by omega
  have HO := Aside0.mk ho
  have HK := Aside0.mk hk
  clear h ho hk
  go_enter Tryd.func15, Tryd.ntmps15
  go_upto_region 1 with (fail)
  try rw [hW0]
  clear hW0
  generalize w.heap.size = R at *
  go_upto_region 2 with (go_at_call 29; (with_reducible refine (shapes_f 1 _ _ _ _ _ _ sh_tok).mono ?_); rintro e w1 ⟨rfl, hb⟩; obtain ⟨W1, hW1, x2, x3, hd⟩ := xs_new (HD.out.on hb) ⟨#[116, 111, 107, 101, 110]⟩ true 17 17; clear HD hb; have HD := Aside0.mk hd; clear hd)
  clear hW1
  generalize w1.heap.size = X at *
  go_wp2_with (first | (go_at_call 37; (with_reducible refine (open_f _ s y _ K HO.out).mono ?_); rintro e w2 ⟨rfl, hd⟩; have n0_ := Aside0.mk (HD.out.drawn hd); clear HD hd x2 x3; have HD := n0_; clear n0_) | (go_at_call 29; (with_reducible refine (shapes_f (nat s 0 1) _ _ _ _ _ _ HK.out).mono ?_); rintro e w3 ⟨rfl, hb⟩; obtain ⟨W3, hW3, x2, x3, hd⟩ := xs_new (HD.out.on hb) n tt a b; clear HD hb; have HD := Aside0.mk hd; clear hd) | ((with_reducible refine gate_store (t := 29) (p := 2) rfl ?_); refine wpList_store_row rfl 29 (.tmp 2) (.tmp 51) rfl R (FC (fz)) rfl rfl 29 (FC fz) HD.out.res (by kernel_rfl) rfl (fc_one _) ?_))
  exact bodyPost_ret (dec_end HD.out.res 11 _ rfl rfl) rfl ⟨rfl, HD.out.last _⟩
set_option maxRecDepth 100000 in
set_option maxHeartbeats 2000000 in
theorem dec_size (w : World) (s y : ByteArray) (K : Nat) (h : isLen s) (ho : Own.crc_Open.f K s = some (y, true)) (n : ByteArray) (tt : Bool) (a b : Int) (hk : Own.frame_shapes.f (nat s 0 1) = some (n, tt, a, b, true)) (hab : ¬ (a ≤ s.size ∧ (s.size : Int) ≤ b)) :
    Calls Tryd.prog 15 #[.string s] w fun e w' => e = .returned (.tuple #[.agg (FC fz), .int .i64 10]) ∧ Below w.heap.size w w' := by
  unfold isLen at h
  obtain ⟨W0, hW0, hN, hB⟩ := rd_new w
  have HD := Aside0.mk (Dc.start hN hB)
  clear hN hB
  have hx := idx1 s (by omega)
  have hx0 := idx0 s (by omega)
  have z1 := (nat_rng s 1 1).1
  have z2 : nat s 1 1 < 256 := (nat_rng s 1 1).2
  have z3 := (nat_rng s 0 1).1
  have z4 : nat s 0 1 < 256 := (nat_rng s 0 1).2
  have d1 : decide ((s.size : Int) < 17) = false := decide_eq_false (by omega)
  have d2 : decide (255 < (s.size : Int)) = false := decide_eq_false (by omega)
  have d3 : ((s.size : Int) != nat s 1 1) = false := bne_eq_false_iff_eq.2 h.2.2.symm
  have y1 : (s.size : Int) ≤ 255 := by omega
  have HO := Aside0.mk ho
  have HK := Aside0.mk hk
  clear h ho hk
  by_cases e5 : (s.size : Int) < a
  · have d5 : decide ((s.size : Int) < a) = true := decide_eq_true e5
    clear hab e5
    go_enter Tryd.func15, Tryd.ntmps15
    go_upto_region 1 with (fail)
    try rw [hW0]
    clear hW0
    generalize w.heap.size = R at *
    go_upto_region 2 with (go_at_call 29; (with_reducible refine (shapes_f 1 _ _ _ _ _ _ sh_tok).mono ?_); rintro e w1 ⟨rfl, hb⟩; obtain ⟨W1, hW1, x2, x3, hd⟩ := xs_new (HD.out.on hb) ⟨#[116, 111, 107, 101, 110]⟩ true 17 17; clear HD hb; have HD := Aside0.mk hd; clear hd)
    clear hW1
    generalize w1.heap.size = X at *
    go_wp2_with (first | (go_at_call 37; (with_reducible refine (open_f _ s y _ K HO.out).mono ?_); rintro e w2 ⟨rfl, hd⟩; have n0_ := Aside0.mk (HD.out.drawn hd); clear HD hd x2 x3; have HD := n0_; clear n0_) | (go_at_call 29; (with_reducible refine (shapes_f (nat s 0 1) _ _ _ _ _ _ HK.out).mono ?_); rintro e w3 ⟨rfl, hb⟩; obtain ⟨W3, hW3, x2, x3, hd⟩ := xs_new (HD.out.on hb) n tt a b; clear HD hb; have HD := Aside0.mk hd; clear hd) | ((with_reducible refine gate_store (t := 29) (p := 2) rfl ?_); refine wpList_store_row rfl 29 (.tmp 2) (.tmp 65) rfl R (FC (fz)) rfl rfl 29 (FC fz) HD.out.res (by kernel_rfl) rfl (fc_one _) ?_))
    exact bodyPost_ret (dec_end HD.out.res 10 _ rfl rfl) rfl ⟨rfl, HD.out.last _⟩
  · have d5 : decide ((s.size : Int) < a) = false := decide_eq_false e5
    have d6 : decide (b < (s.size : Int)) = true := decide_eq_true (by omega)
    clear hab e5
    go_enter Tryd.func15, Tryd.ntmps15
    go_upto_region 1 with (fail)
    try rw [hW0]
    clear hW0
    generalize w.heap.size = R at *
    go_upto_region 2 with (go_at_call 29; (with_reducible refine (shapes_f 1 _ _ _ _ _ _ sh_tok).mono ?_); rintro e w1 ⟨rfl, hb⟩; obtain ⟨W1, hW1, x2, x3, hd⟩ := xs_new (HD.out.on hb) ⟨#[116, 111, 107, 101, 110]⟩ true 17 17; clear HD hb; have HD := Aside0.mk hd; clear hd)
    clear hW1
    generalize w1.heap.size = X at *
    go_wp2_with (first | (go_at_call 37; (with_reducible refine (open_f _ s y _ K HO.out).mono ?_); rintro e w2 ⟨rfl, hd⟩; have n0_ := Aside0.mk (HD.out.drawn hd); clear HD hd x2 x3; have HD := n0_; clear n0_) | (go_at_call 29; (with_reducible refine (shapes_f (nat s 0 1) _ _ _ _ _ _ HK.out).mono ?_); rintro e w3 ⟨rfl, hb⟩; obtain ⟨W3, hW3, x2, x3, hd⟩ := xs_new (HD.out.on hb) n tt a b; clear HD hb; have HD := Aside0.mk hd; clear hd) | ((with_reducible refine gate_store (t := 29) (p := 2) rfl ?_); refine wpList_store_row rfl 29 (.tmp 2) (.tmp 65) rfl R (FC (fz)) rfl rfl 29 (FC fz) HD.out.res (by kernel_rfl) rfl (fc_one _) ?_))
    exact bodyPost_ret (dec_end HD.out.res 10 _ rfl rfl) rfl ⟨rfl, HD.out.last _⟩
set_option maxRecDepth 100000 in
set_option maxHeartbeats 2000000 in
theorem dec_read (w : World) (s y : ByteArray) (K : Nat) (h : isLen s) (ho : Own.crc_Open.f K s = some (y, true)) (n : ByteArray) (tt : Bool) (a b : Int) (hk : Own.frame_shapes.f (nat s 0 1) = some (n, tt, a, b, true)) (hab : a ≤ s.size ∧ (s.size : Int) ≤ b)
    (hy : 15 ≤ y.size ∧ y.size ≤ 1000000) (h3 : nat y 0 1 = 3 → 21 ≤ y.size) (h4 : nat y 0 1 = 4 → 24 ≤ y.size) (hr : rdb y = false) :
    Calls Tryd.prog 15 #[.string s] w fun e w' => e = .returned (.tuple #[.agg (FC fz), .int .i64 3]) ∧ Below w.heap.size w w' := by
  unfold isLen at h
  obtain ⟨W0, hW0, hN, hB⟩ := rd_new w
  have HD := Aside0.mk (Dc.start hN hB)
  clear hN hB
  have hx := idx1 s (by omega)
  have hx0 := idx0 s (by omega)
  have z1 := (nat_rng s 1 1).1
  have z2 : nat s 1 1 < 256 := (nat_rng s 1 1).2
  have z3 := (nat_rng s 0 1).1
  have z4 : nat s 0 1 < 256 := (nat_rng s 0 1).2
  have d1 : decide ((s.size : Int) < 17) = false := decide_eq_false (by omega)
  have d2 : decide (255 < (s.size : Int)) = false := decide_eq_false (by omega)
  have d3 : ((s.size : Int) != nat s 1 1) = false := bne_eq_false_iff_eq.2 h.2.2.symm
  have y1 : (s.size : Int) ≤ 255 := by omega
  have HO := Aside0.mk ho
  have HK := Aside0.mk hk
  have d5 : decide ((s.size : Int) < a) = false := decide_eq_false (by omega)
  have d6 : decide (b < (s.size : Int)) = false := decide_eq_false (by omega)
  have HRD := Aside0.mk fun W : World => read_f W y hy h3 h4
  rw [hr] at HRD
  clear h ho hk hab hy h3 h4 hr
  go_enter Tryd.func15, Tryd.ntmps15
  go_upto_region 1 with (fail)
  try rw [hW0]
  clear hW0
  generalize w.heap.size = R at *
  go_upto_region 2 with (go_at_call 29; (with_reducible refine (shapes_f 1 _ _ _ _ _ _ sh_tok).mono ?_); rintro e w1 ⟨rfl, hb⟩; obtain ⟨W1, hW1, x2, x3, hd⟩ := xs_new (HD.out.on hb) ⟨#[116, 111, 107, 101, 110]⟩ true 17 17; clear HD hb; have HD := Aside0.mk hd; clear hd)
  clear hW1
  generalize w1.heap.size = X at *
  go_wp2_with (first | (go_at_call 37; (with_reducible refine (open_f _ s y _ K HO.out).mono ?_); rintro e w2 ⟨rfl, hd⟩; have n0_ := Aside0.mk (HD.out.drawn hd); clear HD hd x2 x3; have HD := n0_; clear n0_) | (go_at_call 29; (with_reducible refine (shapes_f (nat s 0 1) _ _ _ _ _ _ HK.out).mono ?_); rintro e w3 ⟨rfl, hb⟩; obtain ⟨W3, hW3, x2, x3, hd⟩ := xs_new (HD.out.on hb) n tt a b; clear HD hb; have HD := Aside0.mk hd; clear hd) | (go_at_call 38; (with_reducible refine (HRD.out _).mono ?_); rintro e w4 ⟨rfl, hb⟩; obtain ⟨W4, hW4, hlk, hf9, hd⟩ := fr_new (HD.out.on hb) (rdf y); clear HD hb hW3 x2 x3; have HD := Aside0.mk hd; have HW4 := Aside0.mk hW4; have HLK := Aside0.mk hlk; have HF9 := Aside0.mk hf9; clear hd hW4 hlk hf9) | ((with_reducible refine gate_store (t := 29) (p := 9) rfl ?_); refine wpList_store_row rfl 29 (.tmp 9) (.tmp 69) rfl _ (FC (rdf y)) rfl rfl 29 _ HLK.out (by kernel_rfl) rfl (fc_one _) ?_; refine (congrArg (fun W => wpList Tryd.prog _ _ _ _ W) HW4.out).mpr ?_; clear HW4 HLK) | ((with_reducible refine gate_store (t := 29) (p := 2) rfl ?_); refine wpList_store_row rfl 29 (.tmp 2) (.tmp 78) rfl R (FC (fz)) rfl rfl 29 (FC fz) HD.out.res (by kernel_rfl) rfl (fc_one _) ?_))
  exact bodyPost_ret (dec_end HD.out.res 3 _ rfl rfl) rfl ⟨rfl, HD.out.last _⟩
set_option maxRecDepth 100000 in
set_option maxHeartbeats 2000000 in
theorem dec_right (w : World) (s y : ByteArray) (K : Nat) (h : isLen s) (ho : Own.crc_Open.f K s = some (y, true)) (n : ByteArray) (tt : Bool) (a b : Int) (hk : Own.frame_shapes.f (nat s 0 1) = some (n, tt, a, b, true)) (hab : a ≤ s.size ∧ (s.size : Int) ≤ b)
    (hy : 15 ≤ y.size ∧ y.size ≤ 1000000) (h3 : nat y 0 1 = 3 → 21 ≤ y.size) (h4 : nat y 0 1 = 4 → 24 ≤ y.size) (hr : rdb y = true) (hw : right (rdf y) = false) :
    Calls Tryd.prog 15 #[.string s] w fun e w' => e = .returned (.tuple #[.agg (FC fz), .int .i64 3]) ∧ Below w.heap.size w w' := by
  unfold isLen at h
  obtain ⟨W0, hW0, hN, hB⟩ := rd_new w
  have HD := Aside0.mk (Dc.start hN hB)
  clear hN hB
  have hx := idx1 s (by omega)
  have hx0 := idx0 s (by omega)
  have z1 := (nat_rng s 1 1).1
  have z2 : nat s 1 1 < 256 := (nat_rng s 1 1).2
  have z3 := (nat_rng s 0 1).1
  have z4 : nat s 0 1 < 256 := (nat_rng s 0 1).2
  have d1 : decide ((s.size : Int) < 17) = false := decide_eq_false (by omega)
  have d2 : decide (255 < (s.size : Int)) = false := decide_eq_false (by omega)
  have d3 : ((s.size : Int) != nat s 1 1) = false := bne_eq_false_iff_eq.2 h.2.2.symm
  have y1 : (s.size : Int) ≤ 255 := by omega
  have HO := Aside0.mk ho
  have HK := Aside0.mk hk
  have d5 : decide ((s.size : Int) < a) = false := decide_eq_false (by omega)
  have d6 : decide (b < (s.size : Int)) = false := decide_eq_false (by omega)
  have HRD := Aside0.mk fun W : World => read_f W y hy h3 h4
  rw [hr] at HRD
  have HRI := Aside0.mk fun W : World => right_g W (rdf y) false hw
  clear h ho hk hab hy h3 h4 hr hw
  go_enter Tryd.func15, Tryd.ntmps15
  go_upto_region 1 with (fail)
  try rw [hW0]
  clear hW0
  generalize w.heap.size = R at *
  go_upto_region 2 with (go_at_call 29; (with_reducible refine (shapes_f 1 _ _ _ _ _ _ sh_tok).mono ?_); rintro e w1 ⟨rfl, hb⟩; obtain ⟨W1, hW1, x2, x3, hd⟩ := xs_new (HD.out.on hb) ⟨#[116, 111, 107, 101, 110]⟩ true 17 17; clear HD hb; have HD := Aside0.mk hd; clear hd)
  clear hW1
  generalize w1.heap.size = X at *
  go_wp2_with (first | (go_at_call 37; (with_reducible refine (open_f _ s y _ K HO.out).mono ?_); rintro e w2 ⟨rfl, hd⟩; have n0_ := Aside0.mk (HD.out.drawn hd); clear HD hd x2 x3; have HD := n0_; clear n0_) | (go_at_call 29; (with_reducible refine (shapes_f (nat s 0 1) _ _ _ _ _ _ HK.out).mono ?_); rintro e w3 ⟨rfl, hb⟩; obtain ⟨W3, hW3, x2, x3, hd⟩ := xs_new (HD.out.on hb) n tt a b; clear HD hb; have HD := Aside0.mk hd; clear hd) | (go_at_call 38; (with_reducible refine (HRD.out _).mono ?_); rintro e w4 ⟨rfl, hb⟩; obtain ⟨W4, hW4, hlk, hf9, hd⟩ := fr_new (HD.out.on hb) (rdf y); clear HD hb hW3 x2 x3; have HD := Aside0.mk hd; have HW4 := Aside0.mk hW4; have HLK := Aside0.mk hlk; have HF9 := Aside0.mk hf9; clear hd hW4 hlk hf9) | ((with_reducible refine gate_store (t := 29) (p := 9) rfl ?_); refine wpList_store_row rfl 29 (.tmp 9) (.tmp 69) rfl _ (FC (rdf y)) rfl rfl 29 _ HLK.out (by kernel_rfl) rfl (fc_one _) ?_; refine (congrArg (fun W => wpList Tryd.prog _ _ _ _ W) HW4.out).mpr ?_; clear HW4 HLK) | ((with_reducible refine gate_dst (N := 74) rfl ?_); refine gate_guard (by first | rfl | exact wanted_on rfl rfl rfl rfl) ?_; refine wpList_load_row rfl 29 (.tmp 9) rfl _ rfl 29 (FC (rdf y)) (0, 0) _ HF9.out Tryd.underlying29 rfl (by kernel_rfl) ?_) | (go_at_call 11; (with_reducible refine (HRI.out _).mono ?_); rintro e w5 ⟨rfl, hb⟩; have n0_ := Aside0.mk (HD.out.on hb); have n1_ := Aside0.mk (HF9.out.on hb HF9.out.lt); clear HD HF9 hb; have HD := n0_; have HF9 := n1_; clear n0_ n1_) | ((with_reducible refine gate_store (t := 29) (p := 2) rfl ?_); refine wpList_store_row rfl 29 (.tmp 2) (.tmp 78) rfl R (FC (fz)) rfl rfl 29 (FC fz) HD.out.res (by kernel_rfl) rfl (fc_one _) ?_))
  exact bodyPost_ret (dec_end HD.out.res 3 _ rfl rfl) rfl ⟨rfl, HD.out.last _⟩
set_option maxRecDepth 100000 in
set_option maxHeartbeats 2000000 in
theorem dec_ok (w : World) (s y : ByteArray) (K : Nat) (h : isLen s) (ho : Own.crc_Open.f K s = some (y, true)) (n : ByteArray) (tt : Bool) (a b : Int) (hk : Own.frame_shapes.f (nat s 0 1) = some (n, tt, a, b, true)) (hab : a ≤ s.size ∧ (s.size : Int) ≤ b)
    (hy : 15 ≤ y.size ∧ y.size ≤ 1000000) (h3 : nat y 0 1 = 3 → 21 ≤ y.size) (h4 : nat y 0 1 = 4 → 24 ≤ y.size) (hr : rdb y = true) (hw : right (rdf y) = true) :
    Calls Tryd.prog 15 #[.string s] w fun e w' => e = .returned (.tuple #[.agg (FC (rdf y)), .int .i64 0]) ∧ Below w.heap.size w w' := by
  unfold isLen at h
  obtain ⟨W0, hW0, hN, hB⟩ := rd_new w
  have HD := Aside0.mk (Dc.start hN hB)
  clear hN hB
  have hx := idx1 s (by omega)
  have hx0 := idx0 s (by omega)
  have z1 := (nat_rng s 1 1).1
  have z2 : nat s 1 1 < 256 := (nat_rng s 1 1).2
  have z3 := (nat_rng s 0 1).1
  have z4 : nat s 0 1 < 256 := (nat_rng s 0 1).2
  have d1 : decide ((s.size : Int) < 17) = false := decide_eq_false (by omega)
  have d2 : decide (255 < (s.size : Int)) = false := decide_eq_false (by omega)
  have d3 : ((s.size : Int) != nat s 1 1) = false := bne_eq_false_iff_eq.2 h.2.2.symm
  have y1 : (s.size : Int) ≤ 255 := by omega
  have HO := Aside0.mk ho
  have HK := Aside0.mk hk
  have d5 : decide ((s.size : Int) < a) = false := decide_eq_false (by omega)
  have d6 : decide (b < (s.size : Int)) = false := decide_eq_false (by omega)
  have HRD := Aside0.mk fun W : World => read_f W y hy h3 h4
  rw [hr] at HRD
  have HRI := Aside0.mk fun W : World => right_g W (rdf y) true hw
  clear h ho hk hab hy h3 h4 hr hw
  go_enter Tryd.func15, Tryd.ntmps15
  go_upto_region 1 with (fail)
  try rw [hW0]
  clear hW0
  generalize w.heap.size = R at *
  go_upto_region 2 with (go_at_call 29; (with_reducible refine (shapes_f 1 _ _ _ _ _ _ sh_tok).mono ?_); rintro e w1 ⟨rfl, hb⟩; obtain ⟨W1, hW1, x2, x3, hd⟩ := xs_new (HD.out.on hb) ⟨#[116, 111, 107, 101, 110]⟩ true 17 17; clear HD hb; have HD := Aside0.mk hd; clear hd)
  clear hW1
  generalize w1.heap.size = X at *
  go_wp2_with (first | (go_at_call 37; (with_reducible refine (open_f _ s y _ K HO.out).mono ?_); rintro e w2 ⟨rfl, hd⟩; have n0_ := Aside0.mk (HD.out.drawn hd); clear HD hd x2 x3; have HD := n0_; clear n0_) | (go_at_call 29; (with_reducible refine (shapes_f (nat s 0 1) _ _ _ _ _ _ HK.out).mono ?_); rintro e w3 ⟨rfl, hb⟩; obtain ⟨W3, hW3, x2, x3, hd⟩ := xs_new (HD.out.on hb) n tt a b; clear HD hb; have HD := Aside0.mk hd; clear hd) | (go_at_call 38; (with_reducible refine (HRD.out _).mono ?_); rintro e w4 ⟨rfl, hb⟩; obtain ⟨W4, hW4, hlk, hf9, hd⟩ := fr_new (HD.out.on hb) (rdf y); clear HD hb hW3 x2 x3; have HD := Aside0.mk hd; have HW4 := Aside0.mk hW4; have HLK := Aside0.mk hlk; have HF9 := Aside0.mk hf9; clear hd hW4 hlk hf9) | ((with_reducible refine gate_store (t := 29) (p := 9) rfl ?_); refine wpList_store_row rfl 29 (.tmp 9) (.tmp 69) rfl _ (FC (rdf y)) rfl rfl 29 _ HLK.out (by kernel_rfl) rfl (fc_one _) ?_; refine (congrArg (fun W => wpList Tryd.prog _ _ _ _ W) HW4.out).mpr ?_; clear HW4 HLK) | ((with_reducible refine gate_dst (N := 74) rfl ?_); refine gate_guard (by first | rfl | exact wanted_on rfl rfl rfl rfl) ?_; refine wpList_load_row rfl 29 (.tmp 9) rfl _ rfl 29 (FC (rdf y)) (0, 0) _ HF9.out Tryd.underlying29 rfl (by kernel_rfl) ?_) | (go_at_call 11; (with_reducible refine (HRI.out _).mono ?_); rintro e w5 ⟨rfl, hb⟩; have n0_ := Aside0.mk (HD.out.on hb); have n1_ := Aside0.mk (HF9.out.on hb HF9.out.lt); clear HD HF9 hb; have HD := n0_; have HF9 := n1_; clear n0_ n1_) | ((with_reducible refine gate_dst (N := 79) rfl ?_); refine wpList_load_row rfl 29 (.tmp 9) rfl _ rfl 29 (FC (rdf y)) (0, 0) _ HF9.out Tryd.underlying29 rfl (by kernel_rfl) ?_) | ((with_reducible refine gate_store (t := 29) (p := 2) rfl ?_); refine wpList_store_row rfl 29 (.tmp 2) (.tmp 79) rfl R (FC (rdf y)) rfl rfl 29 (FC fz) HD.out.res (by kernel_rfl) rfl (fc_one _) ?_))
  exact bodyPost_ret (dec_end HD.out.res 0 _ rfl rfl) rfl ⟨rfl, HD.out.last _⟩
end Go.Proofs.YtkcaifpmceoflaaDoor.Frm

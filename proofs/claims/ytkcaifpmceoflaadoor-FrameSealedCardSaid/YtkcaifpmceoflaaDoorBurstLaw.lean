/- crc.Burst walked; a burst that turns something is seen by the sum. Conditions: those that each statement names. The walk of the law FrameBursts. Conditions: those that each statement names. -/
import Derived.Test.YtkcaifpmceoflaaDoorCoded
import Derived.BigRegion
import Derived.Test.YtkcaifpmceoflaaDoorCuts
namespace Go.Proofs.YtkcaifpmceoflaaDoor.Frm
open Go.RowKit Go.Proofs.YtkcaifpmceoflaaDoorW.PrintWords Go.Proofs.YtkcaifpmceoflaaDoorW.PrintLast Go.Proofs.YtkcaifpmceoflaaDoorW.PrintMore
attribute [local go_sem] max2_int min2_int max_two min_two max_three min_three max_four min_four
set_option linter.unusedVariables false
set_option linter.unusedSimpArgs false
/-- A row of bytes that '[]byte(s)' made, as it is now. -/
def BRow (w : World) (G : Nat) (xs : List Int) : Prop := ∃ cs k, w.heap[G]? = some (.cells cs 5 (k, k + 1)) ∧ cs.size = k ∧ xs.length ≤ k ∧ ∀ j, j < xs.length → cs[j]? = some (.int .u8 (xs.getD j 0))
theorem BRow.cell {w : World} {G : Nat} {xs : List Int} (h : BRow w G xs) (j : Nat) (hj : j < xs.length) : w.cell? ⟨G, j, none⟩ = some (.int .u8 (xs.getD j 0)) := by
  obtain ⟨cs, k, h1, h2, h3, h4⟩ := h
  have h5 := h4 j hj
  have hjc : j < cs.size := by omega
  rw [← h5]
  simp only [World.cell?, h1]
  simp
theorem BRow.free {w : World} {G : Nat} {xs : List Int} (h : BRow w G xs) (j : Nat) (hj : j < xs.length) : w.frozen? ⟨G, j, none⟩ = false := by
  obtain ⟨cs, k, h1, h2, h3, h4⟩ := h
  simp only [World.frozen?, h1]
  simp
  omega
theorem BRow.set {w : World} {G : Nat} {xs : List Int} (h : BRow w G xs) (j : Nat) (hj : j < xs.length) (v : Int) : BRow (w.setCell ⟨G, j, none⟩ (.int .u8 v)) G (xs.set j v) := by
  obtain ⟨cs, k, h1, h2, h3, h4⟩ := h
  refine ⟨cs.setIfInBounds j (.int .u8 v), k, set_block h1, by rw [Array.size_setIfInBounds]; exact h2, by rw [List.length_set]; exact h3, fun i hi => ?_⟩
  rw [List.length_set] at hi
  rw [Array.getElem?_setIfInBounds]
  by_cases hij : j = i
  · subst hij
    rw [if_pos rfl, if_pos (by omega)]
    simp [List.getD, hj]
  · rw [if_neg hij, h4 i hi]
    simp [List.getD, hij]
theorem BRow.new (w : World) (s : ByteArray) : BRow (Lib.bytesWorld w 5 s) w.heap.size (bytesOf s) := by
  refine ⟨_, _, Lib.bytesWorld_at_new w 5 s, rfl, ?_, fun j hj => ?_⟩
  · rw [bytesOf_length]
    unfold Lib.bytesCells
    rw [Array.size_append, Array.size_map]
    exact Nat.le_add_right _ _
  · rw [bytesOf_length] at hj
    have h := Lib.bytesWorld_cell w 5 s j hj
    simp only [World.cell?, Lib.bytesWorld_at_new] at h
    have hsz : j < (Lib.bytesCells w 5 s).size := by
      unfold Lib.bytesCells
      rw [Array.size_append, Array.size_map]
      exact Nat.lt_of_lt_of_le hj (Nat.le_add_right _ _)
    simp at h
    rw [h]
    unfold bytesOf
    simp [List.getD]
    rw [Array.getElem?_eq_getElem (show j < s.data.size from hj)]
    rfl
theorem BRow.reads {w : World} {G : Nat} {xs : List Int} (h : BRow w G xs) (hn : xs.length ≤ 1000000) : ReadsInt w .u8 (some ⟨G, 0, none⟩) xs.length xs :=
  ⟨rfl, by omega, fun _ => ⟨_, rfl, fun j hj => by rw [add_plain]; simpa using h.cell j hj⟩⟩
theorem BRow.str {w : World} {G c : Nat} {xs : List Int} (h : BRow w G xs) (hn : xs.length ≤ 1000000) : (convert 42 9 (.slice (some ⟨G, 0, none⟩) xs.length c)).run Tryd.prog w = .ok (.string (strOfNums xs)) w :=
  string_of_reads Tryd.underlying42 Tryd.underlying5 Tryd.underlying9 (h.reads hn)
/-- A step of the burst: a byte turned. -/
def bstep (wide : Int) (q j : Nat) (xs : List Int) : List Int := xs.set (q + j) (Go.bits .xor .u8 (xs.getD (q + j) 0) (wide / 2 ^ (16 - 8 * j) % 256))
def bpass (wide : Int) (q : Nat) (xs : List Int) : Nat → List Int
  | 0 => xs
  | j + 1 => bstep wide q j (bpass wide q xs j)
theorem bpass_len (wide : Int) (q : Nat) (xs : List Int) : ∀ j, (bpass wide q xs j).length = xs.length
  | 0 => rfl
  | j + 1 => by
    show (bstep wide q j (bpass wide q xs j)).length = _
    unfold bstep
    rw [List.length_set, bpass_len wide q xs j]
theorem burst_out (w : World) (s : ByteArray) (hs : s.size ≤ 1000) (at_ p : Int) (h : at_ < 0 ∨ 8 * (s.size : Int) ≤ at_) :
    Calls Tryd.prog 20 #[.string s, .int .i64 at_, .int .u16 p] w fun e w' => e = .returned (.string s) ∧ Below w.heap.size w w' := by
  by_cases h0 : at_ < 0
  · have d1 : decide (at_ < 0) = true := decide_eq_true h0
    clear h h0
    go_enter Tryd.func20, Tryd.ntmps20
    go_wp2
    go_ret
    exact ⟨rfl, Below.refl _ _⟩
  · have d1 : decide (at_ < 0) = false := decide_eq_false h0
    have d2 : decide (8 * (s.size : Int) ≤ at_) = true := decide_eq_true (by omega)
    have y1 : 0 ≤ at_ := by omega
    have y2 : (s.size : Int) ≤ 1000 := by omega
    clear h h0
    go_enter Tryd.func20, Tryd.ntmps20
    go_wp2
    go_ret
    exact ⟨rfl, Below.refl _ _⟩
set_option maxHeartbeats 1000000 in
theorem burst_in (w : World) (s : ByteArray) (hs : s.size ≤ 1000) (q r : Nat) (p : Int) (hp : 0 ≤ p ∧ p < 65536) (hr : r < 8) (hq : q < s.size) :
    Calls Tryd.prog 20 #[.string s, .int .i64 ((8 * q + r : Nat) : Int), .int .u16 p] w fun e w' => e = .returned (.string (strOfNums (bpass (p * 2 ^ (8 - r)) q (bytesOf s) (min 3 (s.size - q))))) ∧ Below w.heap.size w w' := by
  obtain ⟨A, hA⟩ : ∃ A : Int, ((8 * q + r : Nat) : Int) = A := ⟨_, rfl⟩
  have a0 : 0 ≤ A := by omega
  have a1 : A / 8 = (q : Int) := by omega
  have a2 : A % 8 = (r : Int) := by omega
  have d1 : decide (A < 0) = false := decide_eq_false (by omega)
  have d2 : decide (8 * (s.size : Int) ≤ A) = false := decide_eq_false (by omega)
  have y2 : (s.size : Int) ≤ 1000 := by omega
  obtain ⟨V, hV⟩ : ∃ V : Int, p * 2 ^ (8 - r) = V := ⟨_, rfl⟩
  have v1 : 0 ≤ V ∧ V < 16777216 := by
    have h2 : (2 : Int) ^ (8 - r) ≤ 256 ∧ 0 < (2 : Int) ^ (8 - r) := by
      have : ∀ k : Fin 9, (2 : Int) ^ k.val ≤ 256 ∧ 0 < (2 : Int) ^ k.val := by decide
      exact this ⟨8 - r, by omega⟩
    rw [← hV]
    generalize (2 : Int) ^ (8 - r) = E at *
    have h3 : p * E ≤ 65535 * 256 := Int.mul_le_mul (by omega) h2.1 (by omega) (by omega)
    exact ⟨Int.mul_nonneg hp.1 (by omega), by omega⟩
  have hVm : p * 2 ^ (8 - r) % 4294967296 = V := by rw [hV]; omega
  rw [hV]
  obtain ⟨L, hL⟩ : ∃ L, bytesOf s = L := ⟨_, rfl⟩
  have hlen : L.length = s.size := by rw [← hL]; exact bytesOf_length s
  have HR := Aside0.mk (BRow.new w s)
  rw [hL] at HR ⊢
  have HB := Aside0.mk (bytes_below (Below.refl w.heap.size w) (Nat.le_refl _) 5 s)
  have kb := fun W => print_bytes (P := Tryd.prog) 9 42 5 Tryd.underlying9 Tryd.underlying42 Tryd.underlying5 s W
  rw [hA]
  have HA2 := Aside0.mk hA
  have HLEN := Aside0.mk hlen
  obtain ⟨N, hN⟩ : ∃ N, s.size = N := ⟨_, rfl⟩
  rw [hN] at HLEN hq d2 y2 ⊢
  have HN := Aside0.mk hN
  clear hA hV hL hlen
  obtain ⟨M, hM⟩ : ∃ M : Nat, min (q + 3) N = M := ⟨_, rfl⟩
  have hM2 : min 3 (N - q) = M - q := by omega
  have hmm : (if (N : Int) < (q : Int) + 3 then (N : Int) else (q : Int) + 3) = (M : Int) := by split <;> omega
  have m1 : q < M ∧ M ≤ N ∧ M ≤ q + 3 := by omega
  rw [hM2]
  have HM := Aside0.mk m1
  clear hM hM2 m1
  have y3 : (M : Int) ≤ 1000 := by have := HM.out; omega
  have y4 : (q : Int) ≤ 1000 := by omega
  go_enter Tryd.func20, Tryd.ntmps20
  go_upto_region 5 with (fail)
  generalize hEq : w.heap.size = G at *
  have HSZ := Aside0.mk hEq
  clear hEq
  generalize Lib.bytesWorld w 5 s = W0 at *
  rw [hVm]
  go_wp2
  clear hVm kb
  go_loopg [9] 4 (fun kq v9 w' => ∃ (j : Nat), v9 = .int .i64 ((q + j : Nat) : Int) ∧ Aside0 (kq + j = 4 ∧ q + j ≤ M) ∧ Aside0 (BRow w' G (bpass V q L j)) ∧ Aside0 (Below G w w'))
  case atStart => exact ⟨0, by rw [a1]; rfl, ⟨by have := HM.out; omega⟩, HR, HB⟩
  case round =>
    obtain ⟨j, rfl, HK, HR2, HB2⟩ := hrel
    by_cases hj : q + j < M
    · have hjl : q + j < (bpass V q L j).length := by rw [bpass_len]; have := HLEN.out; have := HM.out; omega
      have c1 := HR2.out.cell (q + j) hjl
      have c2 := HR2.out.free (q + j) hjl
      have j3 : j < 3 := by have := HM.out; omega
      have d3 : decide ((((q + j : Nat) : Int)) < (M : Int)) = true := decide_eq_true (by omega)
      have d4 : decide (q + j < M) = true := decide_eq_true hj
      have d5 : decide ((q : Int) + (j : Int) < (M : Int)) = true := decide_eq_true (by omega)
      generalize hxx : (bpass V q L j).getD (q + j) 0 = x at *
      have HX := Aside0.mk hxx
      clear hxx
      have HJ := Aside0.mk (And.intro hj hjl)
      have b1 : (q + j : Nat) < N := by have := HM.out; omega
      have b2 : ((q + j : Nat) : Int) - A / 8 = (j : Int) := by omega
      have b3 : (q + j : Nat) ≤ 1000 := by omega
      clear hj hjl
      go_upto_region 8 with (fail)
      go_region
      have HR3 := Aside0.mk (show BRow (wr.setCell ⟨G, q + j, none⟩ (.int .u8 (Go.bits .xor .u8 x (V / 2 ^ (16 - 8 * j) % 256)))).drew G (bpass V q L (j + 1)) from by
        have h := HR2.out.set (q + j) HJ.out.2 (Go.bits .xor .u8 x (V / 2 ^ (16 - 8 * j) % 256))
        rw [← HX.out] at h ⊢
        exact h)
      have HB3 := Aside0.mk (show Below G w (wr.setCell ⟨G, q + j, none⟩ (.int .u8 (Go.bits .xor .u8 x (V / 2 ^ (16 - 8 * j) % 256)))).drew from (HB2.out.setCell (Nat.le_refl _) _).trans ⟨rfl, rfl, rfl, Nat.le_refl _, fun _ _ => rfl⟩)
      clear HR2 HB2
      go_wp2
      go_roundg (gk - 1)
      case measure => have := HK.out; have := HM.out; have := HJ.out; omega
      case rel => exact ⟨j + 1, by first | rfl | go_num, ⟨by have := HK.out; have := HM.out; have := HJ.out; omega⟩, HR3, HB3⟩
    · obtain rfl : j = M - q := by have := HK.out; have := HM.out; omega
      have d3 : decide ((((q + (M - q) : Nat) : Int)) < (M : Int)) = false := decide_eq_false (by omega)
      have d4 : decide (q + (M - q) < M) = false := decide_eq_false hj
      have d5 : decide ((q : Int) + ((M - q : Nat) : Int) < (M : Int)) = false := decide_eq_false (by omega)
      have hcv := HR2.out.str (c := grownCap w N 0 5) (by rw [bpass_len, HLEN.out]; omega)
      rw [bpass_len, HLEN.out] at hcv
      obtain ⟨res, hres⟩ : ∃ res, strOfNums (bpass V q L (M - q)) = res := ⟨_, rfl⟩
      rw [hres] at hcv
      have HRES := Aside0.mk hres
      clear hres
      have b3 : (q + (M - q) : Nat) ≤ 1000 := by have := HM.out; omega
      clear hj
      go_wp2
      go_ret
      exact ⟨by rw [HRES.out]; rfl, by rw [HSZ.out]; exact HB2.out⟩
/-! ### what a burst does to the sum -/
theorem bxor8 (x y : Int) (hx : 0 ≤ x ∧ x < 256) : UInt8.ofNat (Go.bits .xor .u8 x (y % 256)).toNat = UInt8.ofNat x.toNat ^^^ UInt8.ofNat (y % 256).toNat := by
  apply UInt8.toNat_inj.1
  obtain ⟨n, rfl⟩ := Int.eq_ofNat_of_zero_le hx.1
  obtain ⟨m, hm⟩ : ∃ m : Nat, y % 256 = m := ⟨(y % 256).toNat, by omega⟩
  have hm2 : m < 256 := by omega
  have hn2 : n < 256 := by omega
  rw [hm]
  have e : Go.bits .xor .u8 (n : Int) (m : Int) = ((n ^^^ m : Nat) : Int) := by
    show IntKind.u8.wrap ((BitVec.ofInt 8 (n : Int) ^^^ BitVec.ofInt 8 (m : Int)).toNat : Int) = _
    rw [BitVec.ofInt_natCast, BitVec.ofInt_natCast, BitVec.toNat_xor, BitVec.toNat_ofNat, BitVec.toNat_ofNat, Nat.mod_eq_of_lt (by omega), Nat.mod_eq_of_lt (by omega), IntKind.wrap_u8]
    have : n ^^^ m < 2 ^ 8 := Nat.xor_lt_two_pow (by omega) (by omega)
    omega
  have h2 : n ^^^ m < 2 ^ 8 := Nat.xor_lt_two_pow (by omega) (by omega)
  rw [e, Int.toNat_natCast, Int.toNat_natCast, Int.toNat_natCast, UInt8.toNat_xor, UInt8.toNat_ofNat', UInt8.toNat_ofNat', UInt8.toNat_ofNat', Nat.mod_eq_of_lt h2, Nat.mod_eq_of_lt (by omega), Nat.mod_eq_of_lt (by omega)]
def tb (x : Int) : BitVec 8 := (UInt8.ofNat x.toNat).toBitVec
theorem tb_xor (x y : Int) (hx : 0 ≤ x ∧ x < 256) : tb (Go.bits .xor .u8 x (y % 256)) = tb x ^^^ tb (y % 256) := by
  unfold tb
  rw [bxor8 x y hx]
  rfl
theorem bvs_str (L : List Int) : bvs (strOfNums L) = L.map tb := by
  unfold bvs strOfNums
  rw [List.map_map]
  rfl
theorem bvs_bytes (s : ByteArray) : bvs s = (bytesOf s).map tb := by
  conv => lhs; rw [← str_bytes s, bvs_str]
/-- The pattern's three bytes are the plain ones. -/
theorem w3_tb (p : Int) (hp : 0 ≤ p ∧ p < 65536) (k : Nat) (hk : k ≤ 8) : [tb (p * 2 ^ k / 2 ^ 16 % 256), tb (p * 2 ^ k / 2 ^ 8 % 256), tb (p * 2 ^ k / 2 ^ 0 % 256)] = w3 k (BitVec.ofNat 16 p.toNat) := by
  obtain ⟨n, rfl⟩ := Int.eq_ofNat_of_zero_le hp.1
  have hn : n < 65536 := by omega
  have hk2 : 2 ^ k ≤ 256 := by
    calc 2 ^ k ≤ 2 ^ 8 := Nat.pow_le_pow_right (by decide) hk
      _ = 256 := rfl
  have hlt : n * 2 ^ k < 16777216 := by
    calc n * 2 ^ k ≤ 65535 * 256 := Nat.mul_le_mul (by omega) hk2
      _ < 16777216 := by decide
  have e0 : ((n : Int) * 2 ^ k) = ((n * 2 ^ k : Nat) : Int) := by
    rw [Int.natCast_mul, Int.natCast_pow]
    rfl
  rw [Int.toNat_natCast, e0]
  have e1 : ((BitVec.ofNat 16 n).setWidth 24 <<< k).toNat = n * 2 ^ k := by
    rw [BitVec.toNat_shiftLeft, BitVec.toNat_setWidth, BitVec.toNat_ofNat, Nat.shiftLeft_eq, Nat.mod_eq_of_lt (show n < 2 ^ 16 from hn), Nat.mod_eq_of_lt (show n < 2 ^ 24 by omega), Nat.mod_eq_of_lt (show n * 2 ^ k < 2 ^ 24 from hlt)]
  generalize n * 2 ^ k = m at *
  have f : ∀ x : Nat, tb ((x : Int) % 256) = BitVec.ofNat 8 x := by
    intro x
    apply BitVec.eq_of_toNat_eq
    unfold tb
    show (UInt8.ofNat ((x : Int) % 256).toNat).toNat = _
    rw [UInt8.toNat_ofNat', BitVec.toNat_ofNat]
    omega
  have g : ∀ j : Nat, (((BitVec.ofNat 16 n).setWidth 24 <<< k) >>> j).setWidth 8 = BitVec.ofNat 8 (m / 2 ^ j) := by
    intro j
    apply BitVec.eq_of_toNat_eq
    rw [BitVec.toNat_setWidth, BitVec.toNat_ushiftRight, e1, Nat.shiftRight_eq_div_pow, BitVec.toNat_ofNat]
  unfold w3
  have h0 : (((BitVec.ofNat 16 n).setWidth 24 <<< k)).setWidth 8 = BitVec.ofNat 8 (m / 2 ^ 0) := by
    rw [← g 0]
    rfl
  rw [g 16, g 8, h0, ← f, ← f, ← f]
  congr 1
theorem one_zero (a : BitVec 8) (h : lo a <<< 8 = 0#16) : a = 0#8 := by
  have e := (part8 a).1
  rw [h] at e
  exact e.symm.trans (by decide)
theorem two_zero (a b : BitVec 8) (h : (lo a <<< 8) ^^^ lo b = 0#16) : a = 0#8 ∧ b = 0#8 := by
  have hb : b = 0#8 := by
    have e : ((lo a <<< 8) ^^^ lo b).setWidth 8 = b := by rw [BitVec.setWidth_xor, (part8 a).2.2.1, (part8 b).2.2.2, BitVec.zero_xor]
    rw [h] at e
    exact e.symm.trans (by decide)
  subst hb
  exact ⟨one_zero a (by rw [show lo 0#8 = 0#16 from rfl, BitVec.xor_zero] at h; exact h), rfl⟩
theorem zt_mask (σ : BitVec 16) (l m : List (BitVec 8)) (hl : l.length = m.length) (h1 : zt σ l = 0#16) (h2 : zt σ (l.zipWith (· ^^^ ·) m) = 0#16) : zt 0#16 m = 0#16 := by
  have h := zt_xor l m σ 0#16 hl
  rw [BitVec.xor_zero, h2, h1, BitVec.zero_xor] at h
  exact h.symm
theorem rest_seen (σ : BitVec 16) (l : List (BitVec 8)) (a b c : BitVec 8) (k : Nat) (hk : k ≤ 8) (p : BitVec 16) (hw : [a, b, c] = w3 k p) (h1 : zt σ l = 0#16) :
    (∀ x, l = [x] → zt σ [x ^^^ a] = 0#16 → [x ^^^ a] = l) ∧ (∀ x y, l = [x, y] → zt σ [x ^^^ a, y ^^^ b] = 0#16 → [x ^^^ a, y ^^^ b] = l) ∧
    (∀ x y z r, l = x :: y :: z :: r → zt σ ((x ^^^ a) :: (y ^^^ b) :: (z ^^^ c) :: r) = 0#16 → ((x ^^^ a) :: (y ^^^ b) :: (z ^^^ c) :: r) = l) := by
  refine ⟨fun x hl h2 => ?_, fun x y hl h2 => ?_, fun x y z r hl h2 => ?_⟩
  · subst hl
    have h := zt_mask σ [x] [a] rfl h1 h2
    rw [one_zero a (zt_one a h), BitVec.xor_zero]
  · subst hl
    have h := zt_mask σ [x, y] [a, b] rfl h1 h2
    obtain ⟨ha, hb⟩ := two_zero a b (zt_two a b h)
    rw [ha, hb, BitVec.xor_zero, BitVec.xor_zero]
  · subst hl
    have hz : ∀ r : List (BitVec 8), r.zipWith (· ^^^ ·) (List.replicate r.length 0#8) = r := by
      intro r
      induction r with
      | nil => rfl
      | cons a r ih =>
        show (a ^^^ 0#8) :: r.zipWith (· ^^^ ·) (List.replicate r.length 0#8) = _
        rw [ih, BitVec.xor_zero]
    have e : (x :: y :: z :: r).zipWith (· ^^^ ·) ([a, b, c] ++ List.replicate r.length 0#8) = (x ^^^ a) :: (y ^^^ b) :: (z ^^^ c) :: r := by
      show (x ^^^ a) :: (y ^^^ b) :: (z ^^^ c) :: r.zipWith (· ^^^ ·) (List.replicate r.length 0#8) = _
      rw [hz]
    have h := zt_mask σ (x :: y :: z :: r) ([a, b, c] ++ List.replicate r.length 0#8) (by simp) h1 (by rw [e]; exact h2)
    have h4 : zt (zt 0#16 [a, b, c]) (List.replicate r.length 0#8) = zt 0#16 (List.replicate r.length 0#8) := by rw [← zt_append]; exact h.trans (zt_zeros _).symm
    have h3 := zt_inj _ _ _ h4
    rw [hw] at h3
    have hp := w3_ne k hk p h3
    rw [hp] at hw
    have h0 : w3 k 0#16 = [0#8, 0#8, 0#8] := by
      unfold w3
      have : (0#16).setWidth 24 <<< k = 0#24 := by
        apply BitVec.eq_of_toNat_eq
        rw [BitVec.toNat_shiftLeft]
        simp
      rw [this]
      rfl
    rw [h0] at hw
    injection hw with e1 hw
    injection hw with e2 hw
    injection hw with e3 hw
    rw [e1, e2, e3, BitVec.xor_zero, BitVec.xor_zero, BitVec.xor_zero]
theorem bstep_at (wide : Int) (pre rest : List Int) (j : Nat) : bstep wide pre.length j (pre ++ rest) = pre ++ rest.set j (Go.bits .xor .u8 (rest.getD j 0) (wide / 2 ^ (16 - 8 * j) % 256)) := by
  unfold bstep
  rw [List.set_append_right _ _ (Nat.le_add_right _ _), Nat.add_sub_cancel_left]
  congr 3
  rw [List.getD_eq_getElem?_getD, List.getD_eq_getElem?_getD, List.getElem?_append_right (Nat.le_add_right _ _), Nat.add_sub_cancel_left]
/-- A burst that turns something is seen by the sum. -/
theorem burst_seen (s : ByteArray) (q r : Nat) (p : Int) (hp : 0 ≤ p ∧ p < 65536) (hr : r < 8) (hq : q < s.size) (hc : crc s = 0#16)
    (ht : crc (strOfNums (bpass (p * 2 ^ (8 - r)) q (bytesOf s) (min 3 (s.size - q)))) = 0#16) : strOfNums (bpass (p * 2 ^ (8 - r)) q (bytesOf s) (min 3 (s.size - q))) = s := by
  have hw := w3_tb p hp (8 - r) (by omega)
  have hlen := bytesOf_length s
  obtain ⟨pre, rest, hL, hpl⟩ : ∃ pre rest, bytesOf s = pre ++ rest ∧ pre.length = q := ⟨(bytesOf s).take q, (bytesOf s).drop q, (List.take_append_drop _ _).symm, by rw [List.length_take]; omega⟩
  have hrl : rest.length = s.size - q := by
    rw [hL, List.length_append] at hlen
    omega
  have hrng : ∀ x ∈ rest, 0 ≤ x ∧ x < 256 := fun x hx => bytes_rng s x (by rw [hL]; exact List.mem_append_right _ hx)
  have hcs : zt (zt 0xFFFF#16 (pre.map tb)) (rest.map tb) = 0#16 := by
    unfold crc at hc
    rw [bvs_bytes, hL, List.map_append, zt_append] at hc
    exact hc
  have hct : ∀ L, crc (strOfNums (pre ++ L)) = zt (zt 0xFFFF#16 (pre.map tb)) (L.map tb) := fun L => by
    unfold crc
    rw [bvs_str, List.map_append, zt_append]
  have hfin : ∀ L, L.map tb = rest.map tb → strOfNums (pre ++ L) = s := fun L hh => by
    apply bvs_inj
    rw [bvs_str, bvs_bytes, hL, List.map_append, List.map_append, hh]
  generalize p * 2 ^ (8 - r) = V at *
  rw [hL, ← hrl] at ht ⊢
  subst hpl
  match rest, hrl, hcs, hfin, hrng, ht with
  | [], hrl, _, _, _, _ => exfalso; rw [List.length_nil] at hrl; omega
  | [x], _, hcs, hfin, hrng, ht =>
    have e : bpass V pre.length (pre ++ [x]) (min 3 [x].length) = pre ++ [Go.bits .xor .u8 x (V / 2 ^ 16 % 256)] := by
      show bstep V pre.length 0 (pre ++ [x]) = _
      rw [bstep_at]
      rfl
    rw [e] at ht ⊢
    obtain ⟨h1, _, _⟩ := rest_seen _ _ _ _ _ (8 - r) (by omega) _ hw hcs
    rw [hct, List.map_cons, List.map_nil, tb_xor x _ (hrng x (by simp))] at ht
    apply hfin
    rw [List.map_cons, List.map_nil, tb_xor x _ (hrng x (by simp))]
    exact h1 _ rfl ht
  | [x, y], _, hcs, hfin, hrng, ht =>
    have e : bpass V pre.length (pre ++ [x, y]) (min 3 [x, y].length) = pre ++ [Go.bits .xor .u8 x (V / 2 ^ 16 % 256), Go.bits .xor .u8 y (V / 2 ^ 8 % 256)] := by
      show bstep V pre.length 1 (bstep V pre.length 0 (pre ++ [x, y])) = _
      rw [bstep_at, bstep_at]
      rfl
    rw [e] at ht ⊢
    obtain ⟨_, h1, _⟩ := rest_seen _ _ _ _ _ (8 - r) (by omega) _ hw hcs
    rw [hct, List.map_cons, List.map_cons, List.map_nil, tb_xor x _ (hrng x (by simp)), tb_xor y _ (hrng y (by simp))] at ht
    apply hfin
    rw [List.map_cons, List.map_cons, List.map_nil, tb_xor x _ (hrng x (by simp)), tb_xor y _ (hrng y (by simp))]
    exact h1 _ _ rfl ht
  | x :: y :: z :: l, _, hcs, hfin, hrng, ht =>
    have e : bpass V pre.length (pre ++ x :: y :: z :: l) (min 3 (x :: y :: z :: l).length) = pre ++ Go.bits .xor .u8 x (V / 2 ^ 16 % 256) :: Go.bits .xor .u8 y (V / 2 ^ 8 % 256) :: Go.bits .xor .u8 z (V / 2 ^ 0 % 256) :: l := by
      rw [show min 3 (x :: y :: z :: l).length = 3 by simp only [List.length_cons]; omega]
      show bstep V pre.length 2 (bstep V pre.length 1 (bstep V pre.length 0 (pre ++ x :: y :: z :: l))) = _
      rw [bstep_at, bstep_at, bstep_at]
      rfl
    rw [e] at ht ⊢
    obtain ⟨_, _, h1⟩ := rest_seen _ _ _ _ _ (8 - r) (by omega) _ hw hcs
    rw [hct, List.map_cons, List.map_cons, List.map_cons, tb_xor x _ (hrng x (by simp)), tb_xor y _ (hrng y (by simp)), tb_xor z _ (hrng z (by simp))] at ht
    apply hfin
    rw [List.map_cons, List.map_cons, List.map_cons, tb_xor x _ (hrng x (by simp)), tb_xor y _ (hrng y (by simp)), tb_xor z _ (hrng z (by simp))]
    exact h1 _ _ _ _ rfl ht
/-- A text as a burst leaves it. -/
def burst (s : ByteArray) (at_ p : Int) : ByteArray := if at_ < 0 ∨ 8 * (s.size : Int) ≤ at_ then s else strOfNums (bpass (p * 2 ^ (8 - (at_ % 8).toNat)) (at_ / 8).toNat (bytesOf s) (min 3 (s.size - (at_ / 8).toNat)))
theorem burst_f (w : World) (s : ByteArray) (hs : s.size ≤ 1000) (at_ p : Int) (hp : 0 ≤ p ∧ p < 65536) : Calls Tryd.prog 20 #[.string s, .int .i64 at_, .int .u16 p] w fun e w' => e = .returned (.string (burst s at_ p)) ∧ Below w.heap.size w w' := by
  unfold burst
  by_cases h : at_ < 0 ∨ 8 * (s.size : Int) ≤ at_
  · rw [if_pos h]
    exact burst_out w s hs at_ p h
  · rw [if_neg h]
    have h2 := burst_in w s hs (at_ / 8).toNat (at_ % 8).toNat p hp (by omega) (by omega)
    rw [show ((8 * (at_ / 8).toNat + (at_ % 8).toNat : Nat) : Int) = at_ by omega] at h2
    exact h2
theorem burst_no (s : ByteArray) (at_ p : Int) (hp : 0 ≤ p ∧ p < 65536) (hc : crc s = 0#16) (hne : burst s at_ p ≠ s) : derr (burst s at_ p) ≠ 0 ∧ decf (burst s at_ p) = fz := by
  have h0 : derr (burst s at_ p) ≠ 0 := by
    intro h
    apply hne
    have hcr : crc (burst s at_ p) = 0#16 := by
      unfold derr at h
      split at h
      · split at h
        · assumption
        · exact absurd h (by decide)
      · exact absurd h (by decide)
    unfold burst at hcr ⊢
    by_cases h : at_ < 0 ∨ 8 * (s.size : Int) ≤ at_
    · rw [if_pos h]
    · rw [if_neg h] at hcr ⊢
      exact burst_seen s _ _ p hp (by omega) (by omega) hc hcr
  refine ⟨h0, ?_⟩
  unfold decf
  rw [if_neg h0]
theorem burst_size (s : ByteArray) (at_ p : Int) : (burst s at_ p).size = s.size := by
  unfold burst
  split
  · rfl
  · rw [strOfNums_size, bpass_len, bytesOf_length]
end Go.Proofs.YtkcaifpmceoflaaDoor.Frm
namespace Go.Proofs.YtkcaifpmceoflaaDoor.Frm
open Go.RowKit Go.Proofs.YtkcaifpmceoflaaDoorW.PrintWords Go.Proofs.YtkcaifpmceoflaaDoorW.PrintLast Go.Proofs.YtkcaifpmceoflaaDoorW.PrintMore
set_option linter.unusedVariables false
set_option linter.unusedSimpArgs false
theorem bursts_no (w : World) (f : Fr) (a p : Int) (ht : Own.Tabs w) (h : right f = false) :
    Calls Tryd.prog 7 #[.agg (FC f), .int .i64 a, .int .u16 p] w fun e w' => e = .returned (.bool true) ∧ Below w.heap.size w w' := by
  have HA := Aside0.mk awake_f
  have HE := Aside0.mk fun W : World => encode_no W f h
  have HST := Aside0.mk ((St.start w ht).box f)
  clear h ht
  go_enter Tryd.func7, Tryd.ntmps7
  go_upto_region 1 with (fail)
  generalize w.alloc (.cells (FC f) 29) = W0 at *
  generalize w.heap.size = E at *
  go_upto_region 3 with ((go_at_call 8; (with_reducible refine (HA.out _ HST.out.tab).mono ?_); rintro e w1 ⟨rfl, hb⟩; have n0_ := Aside0.mk (HST.out.on hb); clear HST hb; have HST := n0_; clear n0_))
  go_upto_region 4 with (first | ((with_reducible refine gate_dst (N := 15) rfl ?_); refine wpList_load_row rfl 29 (.tmp 3) rfl _ rfl 29 (FC (f)) (0, 0) _ (HST.out.fr (E, f) (by simp)) Tryd.underlying29 rfl (by kernel_rfl) ?_) | (go_at_call 9; (with_reducible refine (HE.out _).mono ?_); rintro e w2 ⟨rfl, hb⟩; have n0_ := Aside0.mk (HST.out.on hb); clear HST hb; have HST := n0_; clear n0_))
  go_wp2
  go_ret
  exact ⟨rfl, HST.out.below⟩
set_option maxHeartbeats 1000000 in
theorem bursts_same (w : World) (f : Fr) (hr : Rng f) (a p : Int) (hp : 0 ≤ p ∧ p < 65536) (ht : Own.Tabs w) (h : right f = true) (hb : burst (encs f) a p = encs f) :
    Calls Tryd.prog 7 #[.agg (FC f), .int .i64 a, .int .u16 p] w fun e w' => e = .returned (.bool true) ∧ Below w.heap.size w w' := by
  have HA := Aside0.mk awake_f
  have HE := Aside0.mk fun W : World => enc_r W f h
  have HST := Aside0.mk ((St.start w ht).box f)
  have hle := encs_le f h
  have HBU := Aside0.mk fun W : World => burst_f W (encs f) (by omega) a p hp
  have HD := Aside0.mk fun W : World => dec_f W (encs f) (by omega)
  rw [(dec_encs f hr h).1, (dec_encs f hr h).2] at HD
  rw [hb] at HBU
  generalize encs f = r at *
  have q1 : (r.toList == r.toList) = true := beq_self_eq_true _
  clear h ht hr hle hb hp
  go_enter Tryd.func7, Tryd.ntmps7
  go_upto_region 1 with (fail)
  generalize w.alloc (.cells (FC f) 29) = W0 at *
  generalize w.heap.size = E at *
  go_upto_region 3 with ((go_at_call 8; (with_reducible refine (HA.out _ HST.out.tab).mono ?_); rintro e w1 ⟨rfl, hb⟩; have n0_ := Aside0.mk (HST.out.on hb); clear HST hb; have HST := n0_; clear n0_))
  go_upto_region 4 with (first | ((with_reducible refine gate_dst (N := 15) rfl ?_); refine wpList_load_row rfl 29 (.tmp 3) rfl _ rfl 29 (FC (f)) (0, 0) _ (HST.out.fr (E, f) (by simp)) Tryd.underlying29 rfl (by kernel_rfl) ?_) | (go_at_call 9; (with_reducible refine (HE.out _).mono ?_); rintro e w2 ⟨rfl, hb⟩; have n0_ := Aside0.mk (HST.out.on hb); clear HST hb; have HST := n0_; clear n0_))
  go_upto_region 7 with ((go_at_call 20; (with_reducible refine (HBU.out _).mono ?_); rintro e w3 ⟨rfl, hb⟩; have n0_ := Aside0.mk (HST.out.on hb); clear HST hb; have HST := n0_; clear n0_))
  go_upto_region 8 with (first | (go_at_call 15; (with_reducible refine (HD.out _).mono ?_); rintro e w4 ⟨rfl, hb⟩; obtain ⟨W_, hW, hlk, hst⟩ := (HST.out.on hb).new (f); have HW := Aside0.mk hW; have HLK := Aside0.mk hlk; clear HST hb hW hlk; have HST := Aside0.mk hst; clear hst) | ((with_reducible refine gate_store (t := 29) (p := 10) rfl ?_); refine wpList_store_row rfl 29 (.tmp 10) (.tmp 30) rfl _ (FC (f)) rfl rfl 29 _ HLK.out (by kernel_rfl) rfl (fc_one _) ?_; refine (congrArg (fun W => wpList Tryd.prog _ _ _ _ W) HW.out).mpr ?_; clear HW HLK))
  generalize w4.heap.size = E4 at *
  go_wp2_with (first | ((with_reducible refine gate_dst (N := 38) rfl ?_); refine gate_guard (by first | rfl | exact wanted_on rfl rfl rfl rfl) ?_; refine wpList_load_row rfl 29 (.tmp 3) rfl _ rfl 29 (FC (f)) (0, 0) _ (HST.out.fr (E, f) (by simp)) Tryd.underlying29 rfl (by kernel_rfl) ?_) | ((with_reducible refine gate_dst (N := 39) rfl ?_); refine gate_guard (by first | rfl | exact wanted_on rfl rfl rfl rfl) ?_; refine wpList_load_row rfl 29 (.tmp 10) rfl _ rfl 29 (FC (f)) (0, 0) _ (HST.out.fr (E4, f) (by simp)) Tryd.underlying29 rfl (by kernel_rfl) ?_))
  all_goals go_ret
  all_goals exact ⟨rfl, HST.out.below⟩
set_option maxHeartbeats 1000000 in
theorem bursts_other (w : World) (f : Fr) (hr : Rng f) (a p : Int) (hp : 0 ≤ p ∧ p < 65536) (ht : Own.Tabs w) (h : right f = true) (hb : burst (encs f) a p ≠ encs f) :
    Calls Tryd.prog 7 #[.agg (FC f), .int .i64 a, .int .u16 p] w fun e w' => e = .returned (.bool true) ∧ Below w.heap.size w w' := by
  have HA := Aside0.mk awake_f
  have HE := Aside0.mk fun W : World => enc_r W f h
  have HST := Aside0.mk ((St.start w ht).box f)
  have hle := encs_le f h
  have HBU := Aside0.mk fun W : World => burst_f W (encs f) (by omega) a p hp
  have HD := Aside0.mk fun W : World => dec_f W (burst (encs f) a p) (by rw [burst_size]; omega)
  obtain ⟨hd1, hd2⟩ := burst_no (encs f) a p hp (encs_crc f) hb
  rw [hd2, fc_fz] at HD
  generalize derr (burst (encs f) a p) = d at *
  have d1 : (d != 0) = true := bne_iff_ne.2 hd1
  generalize burst (encs f) a p = t at *
  generalize encs f = r at *
  have q1 : (t.toList == r.toList) = false := by
    rw [Lib.toList_data, Lib.toList_data]
    exact beq_eq_false_iff_ne.2 (fun e => hb (ByteArray.ext (Array.toList_inj.1 e)))
  have q2 : (t.data.toList == r.data.toList) = false := beq_eq_false_iff_ne.2 (fun e => hb (ByteArray.ext (Array.toList_inj.1 e)))
  clear hd1 hd2
  clear h ht hr hle hb hp
  go_enter Tryd.func7, Tryd.ntmps7
  go_upto_region 1 with (fail)
  generalize w.alloc (.cells (FC f) 29) = W0 at *
  generalize w.heap.size = E at *
  go_upto_region 3 with ((go_at_call 8; (with_reducible refine (HA.out _ HST.out.tab).mono ?_); rintro e w1 ⟨rfl, hb⟩; have n0_ := Aside0.mk (HST.out.on hb); clear HST hb; have HST := n0_; clear n0_))
  go_upto_region 4 with (first | ((with_reducible refine gate_dst (N := 15) rfl ?_); refine wpList_load_row rfl 29 (.tmp 3) rfl _ rfl 29 (FC (f)) (0, 0) _ (HST.out.fr (E, f) (by simp)) Tryd.underlying29 rfl (by kernel_rfl) ?_) | (go_at_call 9; (with_reducible refine (HE.out _).mono ?_); rintro e w2 ⟨rfl, hb⟩; have n0_ := Aside0.mk (HST.out.on hb); clear HST hb; have HST := n0_; clear n0_))
  go_upto_region 7 with ((go_at_call 20; (with_reducible refine (HBU.out _).mono ?_); rintro e w3 ⟨rfl, hb⟩; have n0_ := Aside0.mk (HST.out.on hb); clear HST hb; have HST := n0_; clear n0_))
  go_upto_region 8 with (first | (go_at_call 15; (with_reducible refine (HD.out _).mono ?_); rintro e w4 ⟨rfl, hb⟩; obtain ⟨W_, hW, hlk, hst⟩ := (HST.out.on hb).new (fz); have HW := Aside0.mk hW; have HLK := Aside0.mk hlk; clear HST hb hW hlk; have HST := Aside0.mk hst; clear hst) | ((with_reducible refine gate_store (t := 29) (p := 10) rfl ?_); refine wpList_store_row rfl 29 (.tmp 10) (.tmp 30) rfl _ (ZC) rfl rfl 29 _ HLK.out (by kernel_rfl) rfl (by kernel_rfl) ?_; refine (congrArg (fun W => wpList Tryd.prog _ _ _ _ W) HW.out).mpr ?_; clear HW HLK))
  generalize w4.heap.size = E4 at *
  go_wp2_with (first | ((with_reducible refine gate_dst (N := 45) rfl ?_); refine gate_guard (by first | rfl | exact wanted_on rfl rfl rfl rfl) ?_; refine wpList_load_row rfl 29 (.tmp 10) rfl _ rfl 29 (ZC) (0, 0) _ (HST.out.fr (E4, fz) (by simp)) Tryd.underlying29 rfl (by kernel_rfl) ?_))
  all_goals go_ret
  all_goals exact ⟨rfl, HST.out.below⟩
theorem bursts_f (w : World) (f : Fr) (hr : Rng f) (a p : Int) (hp : (Lit.int .u16 p).wf = true) (ht : Own.Tabs w) :
    Calls Tryd.prog 7 #[.agg (FC f), .int .i64 a, .int .u16 p] w fun e w' => e = .returned (.bool true) ∧ Below w.heap.size w w' := by
  have hp2 : 0 ≤ p ∧ p < 65536 := by
    simp [Lit.wf] at hp
    have e : IntKind.u16.min = 0 := by decide
    have e2 : IntKind.u16.max = 65535 := by decide
    rw [e, e2] at hp
    omega
  cases h : right f with
  | false => exact bursts_no w f a p ht h
  | true =>
    by_cases hb : burst (encs f) a p = encs f
    · exact bursts_same w f hr a p hp2 ht h hb
    · exact bursts_other w f hr a p hp2 ht h hb
end Go.Proofs.YtkcaifpmceoflaaDoor.Frm

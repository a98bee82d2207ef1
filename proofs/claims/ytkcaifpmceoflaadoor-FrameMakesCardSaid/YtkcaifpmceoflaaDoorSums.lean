/- The checksum, in plain Lean: one bit's step, a byte's, a text's. No program in sight. The program's nibble steps and the document's bit steps are the checksum's. Sealed at its length less two: what the document asks and what the program asks are one. -/
import Derived.Test.YtkcaifpmceoflaaDoorOwnx5
import Derived.Test.YtkcaifpmceoflaaDoorOwnx6
namespace Go.Proofs.YtkcaifpmceoflaaDoor.Frm
/-- One bit's step. -/
def z (x : BitVec 16) : BitVec 16 := (x <<< 1) ^^^ (if x.msb then 0x1021#16 else 0#16)
theorem z_xor (x y : BitVec 16) : z (x ^^^ y) = z x ^^^ z y := by
  unfold z
  rw [BitVec.shiftLeft_xor_distrib, BitVec.msb_xor]
  have hc : ∀ a b k : BitVec 16, (a ^^^ k) ^^^ (b ^^^ k) = a ^^^ b := fun a b k => by
    rw [BitVec.xor_comm b k, BitVec.xor_assoc, ← BitVec.xor_assoc k k b, BitVec.xor_self, BitVec.zero_xor]
  cases x.msb <;> cases y.msb
  · simp
  · simp [BitVec.xor_assoc]
  · simp only [Bool.xor_false, if_true, Bool.false_eq_true, if_false, BitVec.xor_zero]
    ac_rfl
  · simp only [Bool.xor_true, Bool.not_true, if_true, Bool.false_eq_true, if_false, BitVec.xor_zero]
    exact (hc _ _ _).symm
theorem z_zero : z 0#16 = 0#16 := by decide
theorem z_inj0 (x : BitVec 16) (h : z x = 0#16) : x = 0#16 := by
  have h0 : (z x).getLsbD 0 = false := by rw [h]; rfl
  unfold z at h h0
  cases hm : x.msb
  · rw [hm] at h
    have h2 : x <<< 1 = 0#16 := by simpa using h
    apply BitVec.eq_of_getLsbD_eq
    intro i hi
    by_cases h15 : i = 15
    · subst h15
      rw [show x.getLsbD 15 = x.msb from rfl, hm]
      rfl
    · have h3 := congrArg (fun v => v.getLsbD (i + 1)) h2
      simp at h3
      simp
      exact h3 (by omega)
  · rw [hm] at h0
    simp at h0
theorem z_inj (x y : BitVec 16) (h : z x = z y) : x = y := by
  have h2 : z (x ^^^ y) = 0#16 := by rw [z_xor, h, BitVec.xor_self]
  have h3 := z_inj0 _ h2
  exact BitVec.xor_eq_zero_iff.1 h3
def zn : Nat → BitVec 16 → BitVec 16
  | 0, x => x
  | n + 1, x => zn n (z x)
theorem zn_xor : ∀ (n : Nat) (x y : BitVec 16), zn n (x ^^^ y) = zn n x ^^^ zn n y
  | 0, _, _ => rfl
  | n + 1, x, y => by rw [zn, z_xor, zn_xor n]; rfl
theorem zn_zero : ∀ n : Nat, zn n 0#16 = 0#16
  | 0 => rfl
  | n + 1 => by rw [zn, z_zero, zn_zero n]
theorem zn_inj : ∀ (n : Nat) (x y : BitVec 16), zn n x = zn n y → x = y
  | 0, _, _, h => h
  | n + 1, _, _, h => z_inj _ _ (zn_inj n _ _ h)
theorem zn_add : ∀ (m n : Nat) (x : BitVec 16), zn (m + n) x = zn n (zn m x)
  | 0, n, x => by rw [Nat.zero_add]; rfl
  | m + 1, n, x => by rw [show m + 1 + n = (m + n) + 1 by omega, zn, zn_add m n]; rfl
/-- A byte as a sum's low half. -/
def lo (c : BitVec 8) : BitVec 16 := c.setWidth 16
theorem lo_xor (a b : BitVec 8) : lo (a ^^^ b) = lo a ^^^ lo b := by unfold lo; rw [BitVec.setWidth_xor]
theorem zn8_lo (c : BitVec 8) : zn 8 (lo c) = lo c <<< 8 := by
  revert c
  decide
/-- A byte's step. -/
def zb (s : BitVec 16) (c : BitVec 8) : BitVec 16 := zn 8 (s ^^^ (lo c <<< 8))
/-- A text's. -/
def zt (s : BitVec 16) (l : List (BitVec 8)) : BitVec 16 := l.foldl zb s
/-- Behind its own sum a text's sum is 0, and behind nothing else. -/
theorem zt_self (s : BitVec 16) (a b : BitVec 8) : zt s [a, b] = 0#16 ↔ s = (lo a <<< 8) ^^^ lo b := by
  show zn 8 (zn 8 (s ^^^ (lo a <<< 8)) ^^^ (lo b <<< 8)) = 0#16 ↔ _
  rw [← zn8_lo b, ← zn_xor]
  constructor
  · intro h
    have h2 := zn_inj 8 _ 0#16 (by rw [h, zn_zero])
    have h3 := zn_inj 8 _ 0#16 (by rw [h2, zn_zero])
    have h4 : s = lo a <<< 8 ^^^ lo b := by
      have h5 := BitVec.xor_eq_zero_iff.1 h3
      rw [← h5, BitVec.xor_comm s, ← BitVec.xor_assoc, BitVec.xor_self, BitVec.zero_xor]
    exact h4
  · intro h
    rw [h, BitVec.xor_comm (lo a <<< 8) (lo b), BitVec.xor_assoc (lo b), BitVec.xor_self, BitVec.xor_zero, BitVec.xor_self, zn_zero, zn_zero]
theorem zb_xor (s t : BitVec 16) (c d : BitVec 8) : zb (s ^^^ t) (c ^^^ d) = zb s c ^^^ zb t d := by
  unfold zb
  rw [← zn_xor, lo_xor, BitVec.shiftLeft_xor_distrib]
  congr 1
  ac_rfl
/-- The texts' sums differ by the sum of the difference, begun with 0. -/
theorem zt_xor : ∀ (l m : List (BitVec 8)) (s t : BitVec 16), l.length = m.length → zt (s ^^^ t) (l.zipWith (· ^^^ ·) m) = zt s l ^^^ zt t m
  | [], [], _, _, _ => rfl
  | a :: l, b :: m, s, t, h => by
    show zt (zb (s ^^^ t) (a ^^^ b)) (l.zipWith (· ^^^ ·) m) = _
    rw [zb_xor, zt_xor l m _ _ (by simpa using h)]
    rfl
theorem zt_zeros : ∀ n : Nat, zt 0#16 (List.replicate n 0#8) = 0#16
  | 0 => rfl
  | n + 1 => by
    have h := zt_zeros n
    rw [List.replicate_succ]
    show zt (zb 0#16 0#8) (List.replicate n 0#8) = _
    rw [show zb 0#16 0#8 = 0#16 by decide]
    exact h
theorem zt_append (l m : List (BitVec 8)) (s : BitVec 16) : zt s (l ++ m) = zt (zt s l) m := by unfold zt; rw [List.foldl_append]
theorem zt_inj : ∀ (l : List (BitVec 8)) (s t : BitVec 16), zt s l = zt t l → s = t
  | [], _, _, h => h
  | c :: l, s, t, h => by
    have h2 := zt_inj l _ _ h
    have h3 := zn_inj 8 _ _ h2
    have h4 := congrArg (· ^^^ (lo c <<< 8)) h3
    simpa [BitVec.xor_assoc] using h4
theorem zt_two (a b : BitVec 8) (h : zt 0#16 [a, b] = 0#16) : (lo a <<< 8) ^^^ lo b = 0#16 := ((zt_self 0#16 a b).1 h).symm
theorem zt_one (a : BitVec 8) (h : zt 0#16 [a] = 0#16) : lo a <<< 8 = 0#16 := by
  have h2 := zn_inj 8 (0#16 ^^^ (lo a <<< 8)) 0#16 (by rw [zn_zero]; exact h)
  simpa using h2
/-- A burst's three bytes: a pattern of 16 bits, k bits further up than the last one's end. -/
def w3 (k : Nat) (p : BitVec 16) : List (BitVec 8) := [((p.setWidth 24 <<< k) >>> 16).setWidth 8, ((p.setWidth 24 <<< k) >>> 8).setWidth 8, (p.setWidth 24 <<< k).setWidth 8]
theorem w3_xor (k : Nat) (p q : BitVec 16) : w3 k (p ^^^ q) = (w3 k p).zipWith (· ^^^ ·) (w3 k q) := by
  unfold w3
  simp only [BitVec.setWidth_xor, BitVec.shiftLeft_xor_distrib, BitVec.ushiftRight_xor_distrib, List.zipWith_cons_cons, List.zipWith_nil_left]
set_option maxRecDepth 100000 in
theorem w3_lo : ∀ (k : Fin 9) (c : BitVec 8), zt 0#16 (w3 k.val (lo c)) = zn (16 + k.val) (lo c) := by decide +kernel
set_option maxRecDepth 100000 in
theorem w3_hi : ∀ (k : Fin 9) (c : BitVec 8), zt 0#16 (w3 k.val (lo c <<< 8)) = zn (16 + k.val) (lo c <<< 8) := by decide +kernel
theorem halves (p : BitVec 16) : (lo ((p >>> 8).setWidth 8) <<< 8) ^^^ lo (p.setWidth 8) = p := by
  apply BitVec.eq_of_getLsbD_eq
  intro i hi
  unfold lo
  by_cases h8 : i < 8
  · simp [hi, h8]
  · have e : 8 + (i - 8) = i := by omega
    have e2 : i - 8 < 8 := by omega
    simp [hi, h8, e, e2]
theorem w3_zt (k : Nat) (hk : k ≤ 8) (p : BitVec 16) : zt 0#16 (w3 k p) = zn (16 + k) p := by
  have h1 := w3_hi ⟨k, by omega⟩ ((p >>> 8).setWidth 8)
  have h2 := w3_lo ⟨k, by omega⟩ (p.setWidth 8)
  have h3 := zt_xor (w3 k (lo ((p >>> 8).setWidth 8) <<< 8)) (w3 k (lo (p.setWidth 8))) 0#16 0#16 rfl
  rw [← w3_xor, h1, h2, ← zn_xor, halves] at h3
  exact h3
theorem w3_ne (k : Nat) (hk : k ≤ 8) (p : BitVec 16) (h : zt 0#16 (w3 k p) = 0#16) : p = 0#16 := zn_inj (16 + k) _ _ (by rw [← w3_zt k hk p, h, zn_zero])
end Go.Proofs.YtkcaifpmceoflaaDoor.Frm
namespace Go.Proofs.YtkcaifpmceoflaaDoor.Frm
open Go.RowKit Go.Proofs.YtkcaifpmceoflaaDoorW.PrintWords Go.Proofs.YtkcaifpmceoflaaDoorW.PrintLast Go.Proofs.YtkcaifpmceoflaaDoorW.PrintMore
set_option linter.unusedVariables false
set_option linter.unusedSimpArgs false
def q4 (n : BitVec 16) : BitVec 16 := ((n &&& 15#16) <<< 12) ^^^ ((n &&& 15#16) <<< 5) ^^^ (n &&& 15#16)
theorem and_xor15 (x y : BitVec 16) : (x ^^^ y) &&& 15#16 = (x &&& 15#16) ^^^ (y &&& 15#16) := by
  apply BitVec.eq_of_getLsbD_eq
  intro i hi
  simp only [BitVec.getLsbD_and, BitVec.getLsbD_xor]
  cases x.getLsbD i <;> cases y.getLsbD i <;> cases (15#16).getLsbD i <;> rfl
theorem q4_xor (x y : BitVec 16) : q4 (x ^^^ y) = q4 x ^^^ q4 y := by
  unfold q4
  rw [and_xor15, BitVec.shiftLeft_xor_distrib, BitVec.shiftLeft_xor_distrib]
  ac_rfl
theorem z4_lo : ∀ c : BitVec 8, zn 4 (lo c) = (lo c <<< 4) ^^^ q4 (lo c >>> 12) := by decide +kernel
theorem z4_hi : ∀ c : BitVec 8, zn 4 (lo c <<< 8) = ((lo c <<< 8) <<< 4) ^^^ q4 ((lo c <<< 8) >>> 12) := by decide +kernel
theorem z4 (x : BitVec 16) : zn 4 x = (x <<< 4) ^^^ q4 (x >>> 12) := by
  have h1 := z4_hi ((x >>> 8).setWidth 8)
  have h2 := z4_lo (x.setWidth 8)
  have h3 : zn 4 ((lo ((x >>> 8).setWidth 8) <<< 8) ^^^ lo (x.setWidth 8)) = (((lo ((x >>> 8).setWidth 8) <<< 8) ^^^ lo (x.setWidth 8)) <<< 4) ^^^ q4 (((lo ((x >>> 8).setWidth 8) <<< 8) ^^^ lo (x.setWidth 8)) >>> 12) := by
    rw [zn_xor, h1, h2, BitVec.shiftLeft_xor_distrib, BitVec.ushiftRight_xor_distrib, q4_xor]
    ac_rfl
  rwa [halves] at h3
/-- The program's step of four bits. -/
def nib (s c : BitVec 16) : BitVec 16 := (s <<< 4) ^^^ q4 ((s >>> 12) ^^^ c)
theorem q4_up : ∀ (c : BitVec 8), q4 ((lo c <<< 12) >>> 12) = q4 (lo c) ∧ (lo c <<< 12) <<< 4 = 0#16 ∧ q4 (((lo c >>> 4) <<< 12) >>> 12) = q4 (lo c >>> 4) ∧ ((lo c >>> 4) <<< 12) <<< 4 = 0#16 := by decide +kernel
theorem nib_of (s x : BitVec 16) (h1 : q4 ((x <<< 12) >>> 12) = q4 x) (h2 : (x <<< 12) <<< 4 = 0#16) : nib s x = zn 4 (s ^^^ (x <<< 12)) := by
  rw [z4, BitVec.shiftLeft_xor_distrib, h2, BitVec.xor_zero, BitVec.ushiftRight_xor_distrib, q4_xor, h1]
  unfold nib
  rw [q4_xor]
theorem zb_parts : ∀ c : BitVec 8, zn 4 (lo c <<< 8) = zn 4 ((lo c >>> 4) <<< 12) ^^^ (lo c <<< 12) := by decide +kernel
theorem nibs (s : BitVec 16) (c : BitVec 8) : nib (nib s (lo c >>> 4)) (lo c) = zb s c := by
  obtain ⟨h1, h2, h3, h4⟩ := q4_up c
  have e : zn 4 (s ^^^ (lo c <<< 8)) = zn 4 (s ^^^ ((lo c >>> 4) <<< 12)) ^^^ (lo c <<< 12) := by
    rw [zn_xor, zb_parts, zn_xor 4 s, BitVec.xor_assoc]
  rw [nib_of _ _ h3 h4, nib_of _ _ h1 h2, ← e]
  exact (zn_add 4 4 _).symm
theorem bx (x y : BitVec 16) : Go.bits .xor .u16 (x.toNat : Int) (y.toNat : Int) = ((x ^^^ y).toNat : Int) := by
  show IntKind.u16.wrap ((BitVec.ofInt 16 (x.toNat : Int) ^^^ BitVec.ofInt 16 (y.toNat : Int)).toNat : Int) = _
  rw [BitVec.ofInt_natCast, BitVec.ofInt_natCast, BitVec.ofNat_toNat, BitVec.ofNat_toNat, BitVec.setWidth_eq, BitVec.setWidth_eq, IntKind.wrap_u16]
  have := (x ^^^ y).isLt
  omega
theorem q4_tab : ∀ n : Fin 16, Own.h_qtab.getD n.val 0 = ((q4 (BitVec.ofNat 16 n.val)).toNat : Int) := by decide +kernel
theorem quarter_z (x : BitVec 16) : Own.crc_quarter.f (x.toNat : Int) = some ((q4 x).toNat : Int) := by
  have hx := x.isLt
  unfold Own.crc_quarter.f
  rw [if_pos (by omega)]
  have e : ((x.toNat : Int) % (16 : Int)).toNat = x.toNat % 16 := by omega
  rw [e]
  have h := q4_tab ⟨x.toNat % 16, by omega⟩
  rw [h]
  congr 3
  have h2 : BitVec.ofNat 16 (x.toNat % 16) = x &&& 15#16 := by
    apply BitVec.eq_of_toNat_eq
    rw [BitVec.toNat_and, BitVec.toNat_ofNat]
    show _ = x.toNat &&& 15
    rw [show (15 : Nat) = 2 ^ 4 - 1 from rfl, Nat.and_two_pow_sub_one_eq_mod]
    omega
  show q4 (BitVec.ofNat 16 (x.toNat % 16)) = q4 x
  rw [h2]
  unfold q4
  have h3 : x &&& 15#16 &&& 15#16 = x &&& 15#16 := by rw [BitVec.and_assoc]; rfl
  rw [h3]
/-- A text's bytes as bits. -/
def bvs (s : ByteArray) : List (BitVec 8) := s.data.toList.map (·.toBitVec)
theorem bvs_len (s : ByteArray) : (bvs s).length = s.size := by
  unfold bvs
  rw [List.length_map, Array.length_toList]
  rfl
theorem bvs_drop (s : ByteArray) (i : Nat) (h : i < s.size) : (bvs s).drop i = s[i].toBitVec :: (bvs s).drop (i + 1) := by
  have hl : i < (bvs s).length := by rw [bvs_len]; exact h
  have e : (bvs s)[i] = s[i].toBitVec := List.getElem_map _
  rw [List.drop_eq_getElem_cons hl, e]
theorem bt_lo (s : ByteArray) (i : Nat) (h : i < s.size) : bt s (i : Int) = ((lo (s[i].toBitVec)).toNat : Int) := by
  unfold bt
  rw [dif_pos (by rw [Int.toNat_natCast]; exact h)]
  show ((s[i]).toNat : Int) = _
  unfold lo
  rw [BitVec.toNat_setWidth]
  have := (s[i]).toBitVec.isLt
  show (((s[i]).toBitVec.toNat : Nat) : Int) = _
  omega
theorem lo_lt (c : BitVec 8) : (lo c).toNat < 256 := by
  unfold lo
  rw [BitVec.toNat_setWidth]
  have := c.isLt
  omega
theorem nib_at (x y : BitVec 16) : Go.bits .xor .u16 (IntKind.u16.wrap ((x.toNat : Int) * (16 : Int))) ((q4 ((x >>> 12) ^^^ y)).toNat : Int) = ((nib x y).toNat : Int) := by
  have e : IntKind.u16.wrap ((x.toNat : Int) * (16 : Int)) = ((x <<< 4).toNat : Int) := by
    rw [BitVec.toNat_shiftLeft, Nat.shiftLeft_eq, IntKind.wrap_u16]
    omega
  rw [e, bx]
  rfl
theorem up12 (x : BitVec 16) : (x.toNat : Int) / (4096 : Int) = ((x >>> 12).toNat : Int) := by
  rw [BitVec.toNat_ushiftRight, Nat.shiftRight_eq_div_pow]
  omega
theorem more_at (s : ByteArray) (hs : s.size ≤ 1000000) : ∀ (n : Nat) (x : BitVec 16) (i : Nat), i + n = s.size → Own.crc_More.l0 (n + 1) (x.toNat : Int) s (s.size : Int) (i : Int) = some ((zt x ((bvs s).drop i)).toNat : Int)
  | 0, x, i, h => by
    unfold Own.crc_More.l0
    rw [if_neg (by omega), List.drop_eq_nil_of_le (by rw [bvs_len]; omega)]
    rfl
  | n + 1, x, i, h => by
    have hi : i < s.size := by omega
    unfold Own.crc_More.l0
    have hw : IntKind.u16.wrap (bt s (i : Int)) = ((lo (s[i].toBitVec)).toNat : Int) := by
      rw [bt_lo s i hi, IntKind.wrap_u16]
      have := lo_lt (s[i].toBitVec)
      omega
    have h16 : ((lo (s[i].toBitVec)).toNat : Int) / (16 : Int) = ((lo (s[i].toBitVec) >>> 4).toNat : Int) := by
      rw [BitVec.toNat_ushiftRight, Nat.shiftRight_eq_div_pow]
      omega
    have hi2 : wrap64 ((i : Int) + 1) = ((i + 1 : Nat) : Int) := by unfold wrap64; omega
    rw [if_pos (by omega), if_pos (by omega), if_pos (by omega), hw, h16, up12, bx, quarter_z, Option.bind_some, nib_at, up12, bx, quarter_z, Option.bind_some, nib_at, nibs, hi2, more_at s hs n _ (i + 1) (by omega), bvs_drop s i hi]
    rfl
/-- A text's sum. -/
def crc (s : ByteArray) : BitVec 16 := zt 0xFFFF#16 (bvs s)
theorem sum_z (s : ByteArray) (hs : s.size ≤ 1000000) : Own.crc_Sum.f (s.size + 1) s = some ((crc s).toNat : Int) := by
  unfold Own.crc_Sum.f Own.crc_More.f
  have h := more_at s hs s.size 0xFFFF#16 0 (by omega)
  rw [show ((0 : Nat) : Int) = 0 from rfl, show (((0xFFFF#16 : BitVec 16).toNat : Nat) : Int) = 65535 from rfl, List.drop_zero] at h
  rw [h]
  rfl
/-- A sum's two bytes. -/
def two8 (x : BitVec 16) : ByteArray := strOfNums [(x.toNat : Int) / 256 % 256, (x.toNat : Int) % 256]
theorem two8_size (x : BitVec 16) : (two8 x).size = 2 := rfl
theorem sealed_z (s : ByteArray) (hs : s.size ≤ 1000000) : Own.crc_Sealed.f (s.size + 1) s = some (s ++ two8 (crc s)) := by
  unfold Own.crc_Sealed.f
  rw [sum_z s hs, Option.bind_some, Option.bind_some]
  show (if s.size + (two8 (crc s)).size ≤ 9223372036854775807 then some (s ++ two8 (crc s)) else none) = _
  rw [if_pos (by rw [two8_size]; omega)]
theorem open_yes (s : ByteArray) (hs : s.size ≤ 1000000) (h2 : 2 ≤ s.size) (h : crc s = 0#16) : Own.crc_Open.f (s.size + 1) s = some (s.extract 0 (s.size - 2), true) := by
  unfold Own.crc_Open.f
  have e : wrap64 ((s.size : Int) - 2) = ((s.size - 2 : Nat) : Int) := by unfold wrap64; omega
  rw [if_neg (by omega), sum_z s hs, Option.bind_some, h, e]
  rw [if_pos (by rfl), if_pos (by omega), if_pos (by omega), Int.toNat_natCast]
theorem open_no (s : ByteArray) (hs : s.size ≤ 1000000) (h2 : 2 ≤ s.size) (h : crc s ≠ 0#16) : Own.crc_Open.f (s.size + 1) s = some (⟨#[]⟩, false) := by
  unfold Own.crc_Open.f
  rw [if_neg (by omega), sum_z s hs, Option.bind_some, if_neg]
  intro h3
  apply h
  apply BitVec.eq_of_toNat_eq
  show (crc s).toNat = 0
  omega
theorem bvs_append (s t : ByteArray) : bvs (s ++ t) = bvs s ++ bvs t := by
  unfold bvs
  rw [ByteArray.data_append, Array.toList_append, List.map_append]
theorem bvs_two8 (x : BitVec 16) : bvs (two8 x) = [(x >>> 8).setWidth 8, x.setWidth 8] := by
  have h := x.isLt
  unfold two8 bvs strOfNums
  simp only [List.map_cons, List.map_nil]
  congr 1
  · apply BitVec.eq_of_toNat_eq
    simp [UInt8.ofInt, BitVec.toNat_setWidth, Nat.shiftRight_eq_div_pow]
    omega
  · congr 1
    apply BitVec.eq_of_toNat_eq
    simp [BitVec.toNat_setWidth]
    omega
theorem crc_seal (s : ByteArray) : crc (s ++ two8 (crc s)) = 0#16 := by
  unfold crc
  rw [bvs_append, zt_append, bvs_two8, zt_self, halves]
theorem bxl (x y : BitVec 16) : Go.bits .xor .i64 (x.toNat : Int) (y.toNat : Int) = ((x ^^^ y).toNat : Int) := by
  have hx := x.isLt
  have hy := y.isLt
  have h1 : (BitVec.ofInt 64 (x.toNat : Int)).toNat = x.toNat := by
    rw [BitVec.ofInt_natCast, BitVec.toNat_ofNat]; exact Nat.mod_eq_of_lt (by omega)
  have h2 : (BitVec.ofInt 64 (y.toNat : Int)).toNat = y.toNat := by
    rw [BitVec.ofInt_natCast, BitVec.toNat_ofNat]; exact Nat.mod_eq_of_lt (by omega)
  show IntKind.i64.wrap ((BitVec.ofInt 64 (x.toNat : Int) ^^^ BitVec.ofInt 64 (y.toNat : Int)).toNat : Int) = _
  rw [BitVec.toNat_xor, h1, h2, ← BitVec.toNat_xor, IntKind.wrap_i64]
  have := (x ^^^ y).isLt
  omega
theorem z_of (x : BitVec 16) : (x.msb = true ↔ 65536 ≤ 2 * x.toNat) ∧ (x <<< 1).toNat = 2 * x.toNat % 65536 := by
  constructor
  · rw [BitVec.msb_eq_decide, decide_eq_true_eq]
    omega
  · rw [BitVec.toNat_shiftLeft, Nat.shiftLeft_eq]
    omega
theorem ref_l1 (s : ByteArray) (i : Nat) (hi : i ≤ 1000000) : ∀ (d m : Nat) (x : BitVec 16), d ≤ 8 → Own.fuglemanref01_More.l1 (m + d + 1) s (x.toNat : Int) (i : Int) ((8 - d : Nat) : Int) = Own.fuglemanref01_More.l0 m s ((zn d x).toNat : Int) ((i + 1 : Nat) : Int)
  | 0, m, x, _ => by
    unfold Own.fuglemanref01_More.l1
    rw [if_neg (by omega)]
    have e : wrap64 ((i : Int) + 1) = ((i + 1 : Nat) : Int) := by unfold wrap64; omega
    rw [e]
    rfl
  | d + 1, m, x, hd => by
    have hx := x.isLt
    obtain ⟨h1, h2⟩ := z_of x
    have ih := ref_l1 s i hi d m (z x) (by omega)
    have e0 : wrap64 (2 * (x.toNat : Int)) = ((2 * x.toNat : Nat) : Int) := by unfold wrap64; omega
    have e1 : wrap64 (((8 - (d + 1) : Nat) : Int) + 1) = ((8 - d : Nat) : Int) := by unfold wrap64; omega
    unfold Own.fuglemanref01_More.l1
    rw [if_pos (by omega), e0, e1]
    by_cases hm : x.msb = true
    · have h3 := h1.1 hm
      rw [if_pos (by omega)]
      have e2 : wrap64 (((2 * x.toNat : Nat) : Int) - 65536) = (((x <<< 1).toNat : Nat) : Int) := by rw [h2]; unfold wrap64; omega
      have e3 : (4129 : Int) = (((0x1021#16 : BitVec 16).toNat : Nat) : Int) := rfl
      rw [e2, e3, bxl, show (x <<< 1) ^^^ 0x1021#16 = z x by unfold z; rw [if_pos hm]]
      exact ih
    · have h3 : ¬ 65536 ≤ 2 * x.toNat := fun h => hm (h1.2 h)
      rw [if_neg (by omega)]
      have e2 : ((2 * x.toNat : Nat) : Int) = ((z x).toNat : Int) := by
        unfold z
        rw [if_neg hm, BitVec.xor_zero, h2]
        omega
      rw [e2]
      exact ih
theorem ref_at (s : ByteArray) (hs : s.size ≤ 1000000) : ∀ (n : Nat) (x : BitVec 16) (i : Nat), i + n = s.size → Own.fuglemanref01_More.l0 (10 * n + 1) s (x.toNat : Int) (i : Int) = some ((zt x ((bvs s).drop i)).toNat : Int)
  | 0, x, i, h => by
    unfold Own.fuglemanref01_More.l0
    have hx := x.isLt
    rw [if_neg (by omega), List.drop_eq_nil_of_le (by rw [bvs_len]; omega), IntKind.wrap_u16]
    congr 1
    show (x.toNat : Int) % 65536 = (x.toNat : Int)
    omega
  | n + 1, x, i, h => by
    have hi : i < s.size := by omega
    rw [show 10 * (n + 1) + 1 = (10 * n + 1 + 8 + 1) + 1 by omega]
    unfold Own.fuglemanref01_More.l0
    have hb := lo_lt (s[i].toBitVec)
    have hw : wrap64 (wrap64 (bt s (i : Int)) * 256) = (((lo (s[i].toBitVec) <<< 8).toNat : Nat) : Int) := by
      rw [bt_lo s i hi, BitVec.toNat_shiftLeft, Nat.shiftLeft_eq]
      unfold wrap64
      omega
    rw [if_pos (by omega), if_pos (by omega), hw, bxl]
    have h1 := ref_l1 s i (by omega) 8 (10 * n + 1) (x ^^^ (lo (s[i].toBitVec) <<< 8)) (by omega)
    rw [show ((8 - 8 : Nat) : Int) = 0 from rfl] at h1
    rw [h1, ref_at s hs n _ (i + 1) (by omega), bvs_drop s i hi]
    rfl
theorem ref_sum (s : ByteArray) (hs : s.size ≤ 1000000) : Own.fuglemanref01_Sum.f (10 * s.size + 1) s = some ((crc s).toNat : Int) := by
  unfold Own.fuglemanref01_Sum.f Own.fuglemanref01_More.f
  have h := ref_at s hs s.size 0xFFFF#16 0 (by omega)
  have e : wrap64 65535 = (((0xFFFF#16 : BitVec 16).toNat : Nat) : Int) := by unfold wrap64; decide
  rw [show ((0 : Nat) : Int) = 0 from rfl, List.drop_zero] at h
  rw [e, h]
  rfl
theorem ref_sealed (s : ByteArray) (hs : s.size ≤ 1000000) : Own.fuglemanref01_Sealed.f (10 * s.size + 1) s = some (s ++ two8 (crc s)) := by
  have hx := (crc s).isLt
  unfold Own.fuglemanref01_Sealed.f
  rw [ref_sum s hs, Option.bind_some, Option.bind_some]
  have e1 : IntKind.u16.wrap (Int.tdiv ((crc s).toNat : Int) 256) % 256 = ((crc s).toNat : Int) / 256 % 256 := by
    rw [Int.tdiv_eq_ediv_of_nonneg (by omega), IntKind.wrap_u16]
    omega
  have e2 : Int.tmod ((crc s).toNat : Int) 256 % 256 = ((crc s).toNat : Int) % 256 := by
    rw [Int.tmod_eq_emod_of_nonneg (by omega)]
    omega
  rw [e1, e2]
  show (if s.size + (two8 (crc s)).size ≤ 9223372036854775807 then some (s ++ two8 (crc s)) else none) = _
  rw [if_pos (by rw [two8_size]; omega)]
end Go.Proofs.YtkcaifpmceoflaaDoor.Frm
namespace Go.Proofs.YtkcaifpmceoflaaDoor.Frm
open Go.RowKit Go.Proofs.YtkcaifpmceoflaaDoorW.PrintWords Go.Proofs.YtkcaifpmceoflaaDoorW.PrintLast Go.Proofs.YtkcaifpmceoflaaDoorW.PrintMore
set_option linter.unusedVariables false
set_option linter.unusedSimpArgs false
theorem part8 : ∀ c : BitVec 8, ((lo c <<< 8) >>> 8).setWidth 8 = c ∧ (lo c >>> 8).setWidth 8 = 0#8 ∧ (lo c <<< 8).setWidth 8 = 0#8 ∧ (lo c).setWidth 8 = c := by decide +kernel
theorem bvs_inj (s t : ByteArray) (h : bvs s = bvs t) : s = t := by
  have h2 : s.data.toList = t.data.toList := by
    unfold bvs at h
    refine (List.map_inj_right ?_).1 h
    intro a b hab
    exact UInt8.eq_of_toBitVec_eq hab
  apply ByteArray.ext
  exact Array.toList_inj.1 h2
theorem bvs_extract (s : ByteArray) (a b : Nat) : bvs (s.extract a b) = ((bvs s).take b).drop a := by
  unfold bvs
  rw [ByteArray.data_extract, Array.toList_extract, List.extract_eq_drop_take', List.map_drop, List.map_take]
theorem last_two (s : ByteArray) (h : 2 ≤ s.size) : ∃ a b : BitVec 8, bvs s = bvs (s.extract 0 (s.size - 2)) ++ [a, b] := by
  have hl := bvs_len s
  have e : bvs s = (bvs s).take (s.size - 2) ++ (bvs s).drop (s.size - 2) := (List.take_append_drop _ _).symm
  have h2 : ((bvs s).drop (s.size - 2)).length = 2 := by rw [List.length_drop, hl]; omega
  obtain ⟨a, b, hab⟩ : ∃ a b, (bvs s).drop (s.size - 2) = [a, b] := by
    generalize (bvs s).drop (s.size - 2) = l at h2
    match l, h2 with
    | [a, b], _ => exact ⟨a, b, rfl⟩
  refine ⟨a, b, ?_⟩
  rw [bvs_extract, List.drop_zero, ← hab]
  exact e
theorem sealed_iff (s : ByteArray) (h : 2 ≤ s.size) : s.extract 0 (s.size - 2) ++ two8 (crc (s.extract 0 (s.size - 2))) = s ↔ crc s = 0#16 := by
  constructor
  · intro e
    have h2 := crc_seal (s.extract 0 (s.size - 2))
    rwa [e] at h2
  · intro e
    obtain ⟨a, b, hab⟩ := last_two s h
    apply bvs_inj
    rw [bvs_append, bvs_two8, hab]
    congr 1
    unfold crc at e
    rw [hab, zt_append, zt_self] at e
    have e2 : crc (s.extract 0 (s.size - 2)) = (lo a <<< 8) ^^^ lo b := e
    rw [e2]
    have p1 : (((lo a <<< 8) ^^^ lo b) >>> 8).setWidth 8 = a := by
      rw [BitVec.ushiftRight_xor_distrib, BitVec.setWidth_xor, (part8 a).1, (part8 b).2.1, BitVec.xor_zero]
    have p2 : ((lo a <<< 8) ^^^ lo b).setWidth 8 = b := by
      rw [BitVec.setWidth_xor, (part8 a).2.2.1, (part8 b).2.2.2, BitVec.zero_xor]
    rw [p1, p2]
end Go.Proofs.YtkcaifpmceoflaaDoor.Frm

/- The checksum, in plain Lean: one bit's step, a byte's, a text's. No program in sight. -/
namespace Go.Proofs.YtkcaifpmceoflaaDoor.Frm
/-- One bit's step. -/
def z (x : BitVec 16) : BitVec 16 := (x <<< 1) ^^^ (if x.msb then 0x1021#16 else 0#16)
theorem z_xor (x y : BitVec 16) : z (x ^^^ y) = z x ^^^ z y := by
  unfold z
  rw [BitVec.shiftLeft_xor_distrib, BitVec.msb_xor]
  have hc : ∀ a b k : BitVec 16, (a ^^^ k) ^^^ (b ^^^ k) = a ^^^ b := fun a b k => by
    rw [BitVec.xor_comm b k, BitVec.xor_assoc, ← BitVec.xor_assoc k k b, BitVec.xor_self, BitVec.zero_xor]
  cases x.msb <;> cases y.msb
  · simp
  · simp [BitVec.xor_assoc]
  · simp only [Bool.xor_false, if_true, Bool.false_eq_true, if_false, BitVec.xor_zero]
    ac_rfl
  · simp only [Bool.xor_true, Bool.not_true, if_true, Bool.false_eq_true, if_false, BitVec.xor_zero]
    exact (hc _ _ _).symm
theorem z_zero : z 0#16 = 0#16 := by decide
theorem z_inj0 (x : BitVec 16) (h : z x = 0#16) : x = 0#16 := by
  have h0 : (z x).getLsbD 0 = false := by rw [h]; rfl
  unfold z at h h0
  cases hm : x.msb
  · rw [hm] at h
    have h2 : x <<< 1 = 0#16 := by simpa using h
    apply BitVec.eq_of_getLsbD_eq
    intro i hi
    by_cases h15 : i = 15
    · subst h15
      rw [show x.getLsbD 15 = x.msb from rfl, hm]
      rfl
    · have h3 := congrArg (fun v => v.getLsbD (i + 1)) h2
      simp at h3
      simp
      exact h3 (by omega)
  · rw [hm] at h0
    simp at h0
theorem z_inj (x y : BitVec 16) (h : z x = z y) : x = y := by
  have h2 : z (x ^^^ y) = 0#16 := by rw [z_xor, h, BitVec.xor_self]
  have h3 := z_inj0 _ h2
  exact BitVec.xor_eq_zero_iff.1 h3
def zn : Nat → BitVec 16 → BitVec 16
  | 0, x => x
  | n + 1, x => zn n (z x)
theorem zn_xor : ∀ (n : Nat) (x y : BitVec 16), zn n (x ^^^ y) = zn n x ^^^ zn n y
  | 0, _, _ => rfl
  | n + 1, x, y => by rw [zn, z_xor, zn_xor n]; rfl
theorem zn_zero : ∀ n : Nat, zn n 0#16 = 0#16
  | 0 => rfl
  | n + 1 => by rw [zn, z_zero, zn_zero n]
theorem zn_inj : ∀ (n : Nat) (x y : BitVec 16), zn n x = zn n y → x = y
  | 0, _, _, h => h
  | n + 1, _, _, h => z_inj _ _ (zn_inj n _ _ h)
theorem zn_add : ∀ (m n : Nat) (x : BitVec 16), zn (m + n) x = zn n (zn m x)
  | 0, n, x => by rw [Nat.zero_add]; rfl
  | m + 1, n, x => by rw [show m + 1 + n = (m + n) + 1 by omega, zn, zn_add m n]; rfl
/-- A byte as a sum's low half. -/
def lo (c : BitVec 8) : BitVec 16 := c.setWidth 16
theorem lo_xor (a b : BitVec 8) : lo (a ^^^ b) = lo a ^^^ lo b := by unfold lo; rw [BitVec.setWidth_xor]
theorem zn8_lo (c : BitVec 8) : zn 8 (lo c) = lo c <<< 8 := by
  revert c
  decide
/-- A byte's step. -/
def zb (s : BitVec 16) (c : BitVec 8) : BitVec 16 := zn 8 (s ^^^ (lo c <<< 8))
/-- A text's. -/
def zt (s : BitVec 16) (l : List (BitVec 8)) : BitVec 16 := l.foldl zb s
/-- Behind its own sum a text's sum is 0, and behind nothing else. -/
theorem zt_self (s : BitVec 16) (a b : BitVec 8) : zt s [a, b] = 0#16 ↔ s = (lo a <<< 8) ^^^ lo b := by
  show zn 8 (zn 8 (s ^^^ (lo a <<< 8)) ^^^ (lo b <<< 8)) = 0#16 ↔ _
  rw [← zn8_lo b, ← zn_xor]
  constructor
  · intro h
    have h2 := zn_inj 8 _ 0#16 (by rw [h, zn_zero])
    have h3 := zn_inj 8 _ 0#16 (by rw [h2, zn_zero])
    have h4 : s = lo a <<< 8 ^^^ lo b := by
      have h5 := BitVec.xor_eq_zero_iff.1 h3
      rw [← h5, BitVec.xor_comm s, ← BitVec.xor_assoc, BitVec.xor_self, BitVec.zero_xor]
    exact h4
  · intro h
    rw [h, BitVec.xor_comm (lo a <<< 8) (lo b), BitVec.xor_assoc (lo b), BitVec.xor_self, BitVec.xor_zero, BitVec.xor_self, zn_zero, zn_zero]
theorem zb_xor (s t : BitVec 16) (c d : BitVec 8) : zb (s ^^^ t) (c ^^^ d) = zb s c ^^^ zb t d := by
  unfold zb
  rw [← zn_xor, lo_xor, BitVec.shiftLeft_xor_distrib]
  congr 1
  ac_rfl
/-- The texts' sums differ by the sum of the difference, begun with 0. -/
theorem zt_xor : ∀ (l m : List (BitVec 8)) (s t : BitVec 16), l.length = m.length → zt (s ^^^ t) (l.zipWith (· ^^^ ·) m) = zt s l ^^^ zt t m
  | [], [], _, _, _ => rfl
  | a :: l, b :: m, s, t, h => by
    show zt (zb (s ^^^ t) (a ^^^ b)) (l.zipWith (· ^^^ ·) m) = _
    rw [zb_xor, zt_xor l m _ _ (by simpa using h)]
    rfl
theorem zt_zeros : ∀ n : Nat, zt 0#16 (List.replicate n 0#8) = 0#16
  | 0 => rfl
  | n + 1 => by
    have h := zt_zeros n
    rw [List.replicate_succ]
    show zt (zb 0#16 0#8) (List.replicate n 0#8) = _
    rw [show zb 0#16 0#8 = 0#16 by decide]
    exact h
theorem zt_append (l m : List (BitVec 8)) (s : BitVec 16) : zt s (l ++ m) = zt (zt s l) m := by unfold zt; rw [List.foldl_append]
theorem zt_inj : ∀ (l : List (BitVec 8)) (s t : BitVec 16), zt s l = zt t l → s = t
  | [], _, _, h => h
  | c :: l, s, t, h => by
    have h2 := zt_inj l _ _ h
    have h3 := zn_inj 8 _ _ h2
    have h4 := congrArg (· ^^^ (lo c <<< 8)) h3
    simpa [BitVec.xor_assoc] using h4
theorem zt_two (a b : BitVec 8) (h : zt 0#16 [a, b] = 0#16) : (lo a <<< 8) ^^^ lo b = 0#16 := ((zt_self 0#16 a b).1 h).symm
theorem zt_one (a : BitVec 8) (h : zt 0#16 [a] = 0#16) : lo a <<< 8 = 0#16 := by
  have h2 := zn_inj 8 (0#16 ^^^ (lo a <<< 8)) 0#16 (by rw [zn_zero]; exact h)
  simpa using h2
/-- A burst's three bytes: a pattern of 16 bits, k bits further up than the last one's end. -/
def w3 (k : Nat) (p : BitVec 16) : List (BitVec 8) := [((p.setWidth 24 <<< k) >>> 16).setWidth 8, ((p.setWidth 24 <<< k) >>> 8).setWidth 8, (p.setWidth 24 <<< k).setWidth 8]
theorem w3_xor (k : Nat) (p q : BitVec 16) : w3 k (p ^^^ q) = (w3 k p).zipWith (· ^^^ ·) (w3 k q) := by
  unfold w3
  simp only [BitVec.setWidth_xor, BitVec.shiftLeft_xor_distrib, BitVec.ushiftRight_xor_distrib, List.zipWith_cons_cons, List.zipWith_nil_left]
set_option maxRecDepth 100000 in
theorem w3_lo : ∀ (k : Fin 9) (c : BitVec 8), zt 0#16 (w3 k.val (lo c)) = zn (16 + k.val) (lo c) := by decide +kernel
set_option maxRecDepth 100000 in
theorem w3_hi : ∀ (k : Fin 9) (c : BitVec 8), zt 0#16 (w3 k.val (lo c <<< 8)) = zn (16 + k.val) (lo c <<< 8) := by decide +kernel
theorem halves (p : BitVec 16) : (lo ((p >>> 8).setWidth 8) <<< 8) ^^^ lo (p.setWidth 8) = p := by
  apply BitVec.eq_of_getLsbD_eq
  intro i hi
  unfold lo
  by_cases h8 : i < 8
  · simp [hi, h8]
  · have e : 8 + (i - 8) = i := by omega
    have e2 : i - 8 < 8 := by omega
    simp [hi, h8, e, e2]
theorem w3_zt (k : Nat) (hk : k ≤ 8) (p : BitVec 16) : zt 0#16 (w3 k p) = zn (16 + k) p := by
  have h1 := w3_hi ⟨k, by omega⟩ ((p >>> 8).setWidth 8)
  have h2 := w3_lo ⟨k, by omega⟩ (p.setWidth 8)
  have h3 := zt_xor (w3 k (lo ((p >>> 8).setWidth 8) <<< 8)) (w3 k (lo (p.setWidth 8))) 0#16 0#16 rfl
  rw [← w3_xor, h1, h2, ← zn_xor, halves] at h3
  exact h3
theorem w3_ne (k : Nat) (hk : k ≤ 8) (p : BitVec 16) (h : zt 0#16 (w3 k p) = 0#16) : p = 0#16 := zn_inj (16 + k) _ _ (by rw [← w3_zt k hk p, h, zn_zero])
end Go.Proofs.YtkcaifpmceoflaaDoor.Frm

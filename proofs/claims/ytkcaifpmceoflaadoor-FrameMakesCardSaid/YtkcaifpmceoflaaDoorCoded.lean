/- '==' of two frames. Plain facts: what is encoded is decoded back, and what can be decoded is that frame's bytes. frame.Encode and frame.Decode, in plain form. Conditions: those that each statement names. -/
import Derived.Test.YtkcaifpmceoflaaDoorDec
import Derived.Test.YtkcaifpmceoflaaDoorRErrs
import Derived.Test.YtkcaifpmceoflaaDoorTexts
namespace Go.Proofs.YtkcaifpmceoflaaDoor.Frm
open Go.RowKit Go.Proofs.YtkcaifpmceoflaaDoorW.PrintWords Go.Proofs.YtkcaifpmceoflaaDoorW.PrintLast Go.Proofs.YtkcaifpmceoflaaDoorW.PrintMore
set_option linter.unusedVariables false
theorem eq_yes (f : Fr) (W : World) : (binOp .eql 29 (.agg (FC f)) (.agg (FC f))).run Tryd.prog W = .ok (.bool true) W := by
  go_simp
theorem Fr.same (f g : Fr) (h0 : f.kind = g.kind) (h1 : f.src = g.src) (h2 : f.dst = g.dst) (h3 : f.sinc = g.sinc) (h4 : f.dinc = g.dinc) (h5 : f.ec = g.ec) (h6 : f.ea = g.ea) (h7 : f.ei = g.ei) (h8 : f.hop = g.hop) (h9 : f.hc = g.hc) (h10 : f.ha = g.ha) (h11 : f.hi = g.hi) (h12 : f.wants = g.wants) (h13 : f.blk = g.blk) (h14 : f.vinc = g.vinc) (h15 : f.vseq = g.vseq) (h16 : f.part = g.part) (h17 : f.parts = g.parts) (h18 : f.bytes.toList = g.bytes.toList) : f = g := by
  cases f
  cases g
  simp only at *
  have h19 : ∀ a b : ByteArray, a.toList = b.toList → a = b := fun a b h => by
    rw [Lib.toList_data, Lib.toList_data] at h
    exact ByteArray.ext (Array.toList_inj.1 h)
  have h20 := h19 _ _ h18
  subst h0 h1 h2 h3 h4 h5 h6 h7 h8 h9 h10 h11 h12 h13 h14 h15 h16 h17 h20
  rfl
theorem eq_no (f g : Fr) (h : f ≠ g) (W : World) : (binOp .eql 29 (.agg (FC f)) (.agg (FC g))).run Tryd.prog W = .ok (.bool false) W := by
  go_simp
  intro h0 h1 h2 h3 h4 h5 h6 h7 h8 h9 h10 h11 h12 h13 h14 h15 h16 h17 h18
  exact h (Fr.same f g h0 h1 h2 h3 h4 h5 h6 h7 h8 h9 h10 h11 h12 h13 h14 h15 h16 h17 h18)
end Go.Proofs.YtkcaifpmceoflaaDoor.Frm
namespace Go.Proofs.YtkcaifpmceoflaaDoor.Frm
open Go.RowKit Go.Proofs.YtkcaifpmceoflaaDoorW.PrintWords Go.Proofs.YtkcaifpmceoflaaDoorW.PrintLast Go.Proofs.YtkcaifpmceoflaaDoorW.PrintMore
set_option linter.unusedVariables false
set_option linter.unusedSimpArgs false
def nm (l : List Int) : Int := l.foldl (fun n c => n * 256 + c) 0
theorem num_go : ∀ (l : List UInt8) (n : Nat), ((l.foldl (fun n c => n * 256 + c.toNat) n : Nat) : Int) = (l.map fun c => (c.toNat : Int)).foldl (fun n c => n * 256 + c) (n : Int)
  | [], n => rfl
  | c :: l, n => by
    rw [List.foldl_cons, num_go l, List.map_cons, List.foldl_cons]
    congr 1
theorem nat_nm (s : ByteArray) (p m : Nat) : nat s p m = nm (((bytesOf s).drop p).take m) := by
  unfold nat nm num bytesOf
  rw [num_go]
  congr 1
  rw [ByteArray.data_extract, Array.toList_extract, List.extract_eq_drop_take', List.drop_take, List.map_take, List.map_drop]
  congr 1
  omega
theorem bytes_str (L : List Int) (h : ∀ x ∈ L, 0 ≤ x ∧ x < 256) : bytesOf (strOfNums L) = L := by
  unfold bytesOf strOfNums
  rw [List.map_map]
  have e : ∀ x ∈ L, ((fun b : UInt8 => (b.toNat : Int)) ∘ fun n : Int => UInt8.ofNat n.toNat) x = x := by
    intro x hx
    have := h x hx
    simp
    omega
  rw [List.map_congr_left e, List.map_id']
theorem str_bytes (s : ByteArray) : strOfNums (bytesOf s) = s := by
  apply ByteArray.ext
  apply Array.toList_inj.1
  show (bytesOf s).map (fun n => UInt8.ofNat n.toNat) = s.data.toList
  unfold bytesOf
  rw [List.map_map]
  have e : ∀ x ∈ s.data.toList, ((fun n : Int => UInt8.ofNat n.toNat) ∘ fun b : UInt8 => (b.toNat : Int)) x = x := by
    intro x _
    simp
  rw [List.map_congr_left e, List.map_id']
theorem bytes_app (s t : ByteArray) : bytesOf (s ++ t) = bytesOf s ++ bytesOf t := by
  unfold bytesOf
  rw [ByteArray.data_append, Array.toList_append, List.map_append]
theorem nat_at (s : ByteArray) (p : Nat) (h : p < s.size) : nat s p 1 = (bytesOf s)[p]'(by rw [bytesOf_length]; exact h) := by
  rw [nat_nm]
  have hl : p < (bytesOf s).length := by rw [bytesOf_length]; exact h
  rw [List.drop_eq_getElem_cons hl, List.take_succ_cons, List.take_zero]
  show 0 * 256 + _ = _
  omega
theorem bytes_rng (s : ByteArray) : ∀ x ∈ bytesOf s, 0 ≤ x ∧ x < 256 := by
  intro x hx
  obtain ⟨c, _, rfl⟩ := List.mem_map.1 hx
  have := c.toNat_lt
  show 0 ≤ (c.toNat : Int) ∧ (c.toNat : Int) < 256
  omega
theorem bytes_split (y : ByteArray) : ∀ n : Nat, n ≤ y.size → bytesOf y = (List.range n).map (fun i => nat y i 1) ++ (bytesOf y).drop n
  | 0, _ => rfl
  | n + 1, h => by
    have hl : n < (bytesOf y).length := by rw [bytesOf_length]; omega
    conv => lhs; rw [bytes_split y n (by omega), List.drop_eq_getElem_cons hl, ← nat_at y n (by omega)]
    rw [List.range_succ, List.map_append, List.append_assoc]
    rfl
theorem nat_two (s : ByteArray) (p : Nat) (h : p + 2 ≤ s.size) : nat s p 2 = nat s p 1 * 256 + nat s (p + 1) 1 := by
  have hl : p < (bytesOf s).length := by rw [bytesOf_length]; omega
  have hl2 : p + 1 < (bytesOf s).length := by rw [bytesOf_length]; omega
  rw [nat_at s p (by omega), nat_at s (p + 1) (by omega), nat_nm, List.drop_eq_getElem_cons hl, List.drop_eq_getElem_cons hl2]
  show (0 * 256 + _) * 256 + _ = _
  omega
theorem nat_four (s : ByteArray) (p : Nat) (h : p + 4 ≤ s.size) : nat s p 4 = ((nat s p 1 * 256 + nat s (p + 1) 1) * 256 + nat s (p + 2) 1) * 256 + nat s (p + 3) 1 := by
  have hl : p < (bytesOf s).length := by rw [bytesOf_length]; omega
  have hl1 : p + 1 < (bytesOf s).length := by rw [bytesOf_length]; omega
  have hl2 : p + 2 < (bytesOf s).length := by rw [bytesOf_length]; omega
  have hl3 : p + 3 < (bytesOf s).length := by rw [bytesOf_length]; omega
  rw [nat_at s p (by omega), nat_at s (p + 1) (by omega), nat_at s (p + 2) (by omega), nat_at s (p + 3) (by omega), nat_nm, List.drop_eq_getElem_cons hl, List.drop_eq_getElem_cons hl1, List.drop_eq_getElem_cons hl2, List.drop_eq_getElem_cons hl3]
  show (((0 * 256 + _) * 256 + _) * 256 + _) * 256 + _ = _
  rw [Int.zero_mul, Int.zero_add]
theorem nat_left (s t : ByteArray) (p m : Nat) (h : p + m ≤ s.size) : nat (s ++ t) p m = nat s p m := by
  rw [nat_nm, nat_nm, bytes_app, List.drop_append_of_le_length (by rw [bytesOf_length]; omega), List.take_append_of_le_length (by rw [List.length_drop, bytesOf_length]; omega)]
theorem bytes_cut (s : ByteArray) (n : Nat) : bytesOf (s.extract 0 n) = (bytesOf s).take n := by
  unfold bytesOf
  rw [ByteArray.data_extract, Array.toList_extract, List.extract_eq_drop_take', List.map_drop, List.map_take, List.drop_zero]
theorem bytes_from (s : ByteArray) (n : Nat) : bytesOf (s.extract n s.size) = (bytesOf s).drop n := by
  unfold bytesOf
  rw [ByteArray.data_extract, Array.toList_extract, List.extract_eq_drop_take', List.map_drop, List.map_take, List.take_of_length_le]
  rw [List.length_map, Array.length_toList]
  exact Nat.le_refl _
theorem nat_cut (s : ByteArray) (n p m : Nat) (h : p + m ≤ n) : nat (s.extract 0 n) p m = nat s p m := by
  rw [nat_nm, nat_nm, bytes_cut, List.drop_take, List.take_take]
  congr 2
  omega
theorem bytes_inj (s t : ByteArray) (h : bytesOf s = bytesOf t) : s = t := by rw [← str_bytes s, h, str_bytes]
/-- How long a frame's bytes are. -/
def zsz (f : Fr) : Int := if f.kind = 3 then 23 else if f.kind = 4 then 26 + f.bytes.size else 17
theorem two_rng (a : Int) : ∀ x ∈ two a, 0 ≤ x ∧ x < 256 := by
  intro x hx
  simp only [two, List.mem_cons, List.not_mem_nil, or_false] at hx
  rcases hx with rfl | rfl <;> omega
theorem u8_in (x : Int) (h : 0 ≤ x ∧ x < 256) : IntKind.u8.wrap x = x := by
  rw [IntKind.wrap_u8]
  omega
theorem u16_in (x : Int) : IntKind.u16.wrap x = x % 65536 := IntKind.wrap_u16 x
theorem right_parts (f : Fr) (h : right f = true) : (1 ≤ f.kind ∧ f.kind ≤ 5) ∧ (f.kind = 4 → f.dst = 0 ∧ f.dinc = 0) ∧ top f < 32 ∧ bare f = true := by
  unfold right at h
  simp only [Bool.and_eq_true, Bool.or_eq_true, decide_eq_true_eq, kindok] at h
  obtain ⟨⟨⟨h1, h2⟩, h3⟩, h4⟩ := h
  exact ⟨h1, fun h5 => by rcases h2 with h2 | h2; (exact absurd h5 h2); exact h2, h3, h4⟩
theorem bare_3 (f : Fr) (h : bare f = true) (hk : f.kind = 3) : f.blk = 0 ∧ f.vinc = 0 ∧ f.vseq = 0 ∧ f.part = 0 ∧ f.parts = 0 ∧ f.bytes.size = 0 := by
  unfold bare at h
  rw [if_neg (fun h : f.kind ≠ 3 ∧ _ => h.1 hk), if_neg (by omega)] at h
  exact of_decide_eq_true h
theorem bare_no3 (f : Fr) (h : bare f = true) (hk : f.kind ≠ 3) : f.hc = 0 ∧ f.ha = 0 ∧ f.hi = 0 ∧ f.wants = false := by
  unfold bare at h
  by_cases h2 : f.hc ≠ 0 ∨ f.ha ≠ 0 ∨ f.hi ≠ 0 ∨ f.wants = true
  · rw [if_pos ⟨hk, h2⟩] at h
    cases h
  · refine ⟨by omega, by omega, by omega, ?_⟩
    cases hw : f.wants with
    | false => rfl
    | true => exact absurd (.inr (.inr (.inr hw))) h2
theorem bare_4 (f : Fr) (h : bare f = true) (hk : f.kind = 4) : f.blk < 16 ∧ 1 ≤ f.parts ∧ f.parts ≤ 4 ∧ f.part < f.parts ∧ 1 ≤ f.bytes.size ∧ f.bytes.size ≤ 16 := by
  unfold bare at h
  split at h
  · cases h
  · exact of_decide_eq_true h
theorem bare_no4 (f : Fr) (h : bare f = true) (hk : f.kind ≠ 4) : f.blk = 0 ∧ f.vinc = 0 ∧ f.vseq = 0 ∧ f.part = 0 ∧ f.parts = 0 ∧ f.bytes.size = 0 := by
  unfold bare at h
  split at h
  · cases h
  · exact of_decide_eq_true h
theorem zsz_rng (f : Fr) (h : right f = true) : 17 ≤ zsz f ∧ zsz f ≤ 42 := by
  obtain ⟨h1, h2, h3, h4⟩ := right_parts f h
  unfold zsz
  split
  · omega
  · split
    · have := bare_4 f h4 (by assumption)
      omega
    · omega
theorem body_rng (f : Fr) (hr : Rng f) (h : right f = true) (z : Int) (hz : 0 ≤ z ∧ z < 256) : ∀ x ∈ body f z, 0 ≤ x ∧ x < 256 := by
  obtain ⟨h1, h2, h3, h4⟩ := right_parts f h
  intro x hx
  unfold body at hx
  rw [u8_in f.kind (by omega), u8_in z hz] at hx
  simp only [two, List.mem_append, List.mem_cons, List.not_mem_nil, or_false] at hx
  have r1 := hr.src
  have r2 := hr.dst
  have r3 := hr.ea
  have hx2 : x ∈ tail_ f ∨ (0 ≤ x ∧ x < 256) := by
    rcases hx with hx | hx
    · right
      omega
    · exact .inl hx
  rcases hx2 with hx2 | hx2
  · unfold tail_ at hx2
    split at hx2
    · have r4 := hr.ha
      simp only [two, List.mem_append, List.mem_cons, List.not_mem_nil, or_false] at hx2
      split at hx2 <;> omega
    · split at hx2
      · have r4 := hr.blk
        have r5 := hr.part
        have r6 := hr.parts
        rcases List.mem_append.1 hx2 with hx3 | hx3
        · simp only [two, List.mem_append, List.mem_cons, List.not_mem_nil, or_false] at hx3
          omega
        · exact bytes_rng _ _ hx3
      · cases hx2
  · exact hx2
/-- What is sealed of a frame. -/
def insd (f : Fr) : ByteArray := strOfNums (body f (zsz f))
/-- A frame's bytes. -/
def encs (f : Fr) : ByteArray := insd f ++ two8 (crc (insd f))
def hd15 (f : Fr) (t : List Int) : List Int := f.kind :: zsz f :: f.src :: f.sinc / 256 % 256 :: f.sinc % 256 :: f.dst :: f.dinc / 256 % 256 :: f.dinc % 256 :: f.ec / 256 % 256 :: f.ec % 256 :: f.ea :: f.ei / 256 % 256 :: f.ei % 256 :: f.hop / 256 % 256 :: f.hop % 256 :: t
theorem body_hd (f : Fr) (h : right f = true) : body f (zsz f) = hd15 f (tail_ f) := by
  obtain ⟨h1, h2, h3, h4⟩ := right_parts f h
  have hz := zsz_rng f h
  unfold body
  rw [u8_in f.kind (by omega), u8_in (zsz f) (by omega)]
  rfl
theorem insd_bytes (f : Fr) (hr : Rng f) (h : right f = true) : bytesOf (insd f) = hd15 f (tail_ f) := by
  have hz := zsz_rng f h
  unfold insd
  rw [bytes_str _ (body_rng f hr h _ (by omega)), body_hd f h]
theorem insd_size (f : Fr) (h : right f = true) : ((insd f).size : Int) = zsz f - 2 := by
  unfold insd
  rw [strOfNums_size, body_hd f h]
  unfold zsz tail_
  split
  · rfl
  · split
    · show ((_ + 1 : Nat) : Int) = _
      simp only [List.length_append, two, List.length_cons, List.length_nil, bytesOf_length]
      omega
    · rfl
theorem one_nm (a : Int) : nm [a] = a := by show 0 * 256 + a = a; omega
theorem two_nm (a : Int) (h : 0 ≤ a ∧ a < 65536) : nm [a / 256 % 256, a % 256] = a := by show (0 * 256 + a / 256 % 256) * 256 + a % 256 = a; omega
theorem four_nm (a : Int) (h : 0 ≤ a ∧ a < 4294967296) : nm [IntKind.u16.wrap (a / 65536) / 256 % 256, IntKind.u16.wrap (a / 65536) % 256, IntKind.u16.wrap a / 256 % 256, IntKind.u16.wrap a % 256] = a := by
  rw [u16_in, u16_in]
  show (((0 * 256 + a / 65536 % 65536 / 256 % 256) * 256 + a / 65536 % 65536 % 256) * 256 + a % 65536 / 256 % 256) * 256 + a % 65536 % 256 = a
  omega
theorem insd_nat (f : Fr) (hr : Rng f) (h : right f = true) (p m : Nat) : nat (insd f) p m = nm (((hd15 f (tail_ f)).drop p).take m) := by rw [nat_nm, insd_bytes f hr h]
theorem insd_kind (f : Fr) (hr : Rng f) (h : right f = true) : nat (insd f) 0 1 = f.kind := by rw [insd_nat f hr h]; exact one_nm _
theorem insd_fD (f : Fr) (hr : Rng f) (h : right f = true) : fD (insd f) = { fz with kind := f.kind, src := f.src, sinc := f.sinc, dst := f.dst, dinc := f.dinc, ec := f.ec, ea := f.ea, ei := f.ei, hop := f.hop } := by
  have n := insd_nat f hr h
  have n0 : nat (insd f) 0 1 = f.kind := (n 0 1).trans (one_nm _)
  have n2 : nat (insd f) 2 1 = f.src := (n 2 1).trans (one_nm _)
  have n3 : nat (insd f) 3 2 = f.sinc := (n 3 2).trans (two_nm _ hr.sinc)
  have n5 : nat (insd f) 5 1 = f.dst := (n 5 1).trans (one_nm _)
  have n6 : nat (insd f) 6 2 = f.dinc := (n 6 2).trans (two_nm _ hr.dinc)
  have n8 : nat (insd f) 8 2 = f.ec := (n 8 2).trans (two_nm _ hr.ec)
  have n10 : nat (insd f) 10 1 = f.ea := (n 10 1).trans (one_nm _)
  have n11 : nat (insd f) 11 2 = f.ei := (n 11 2).trans (two_nm _ hr.ei)
  have n13 : nat (insd f) 13 2 = f.hop := (n 13 2).trans (two_nm _ hr.hop)
  unfold fD fC fB fA
  rw [n0, n2, n3, n5, n6, n8, n10, n11, n13]
theorem size0 (b : ByteArray) (h : b.size = 0) : b = ⟨#[]⟩ := by
  apply ByteArray.ext
  exact Array.eq_empty_of_size_eq_zero h
theorem rdf_insd (f : Fr) (hr : Rng f) (h : right f = true) : rdf (insd f) = f ∧ rdb (insd f) = true := by
  obtain ⟨h1, h2, h3, h4⟩ := right_parts f h
  have hk := insd_kind f hr h
  have hD := insd_fD f hr h
  have n := insd_nat f hr h
  unfold rdf rdb
  rw [hk]
  by_cases k3 : f.kind = 3
  · obtain ⟨e1, e2, e3, e4, e5, e6⟩ := bare_3 f h4 k3
    have ht : tail_ f = [f.hc / 256 % 256, f.hc % 256, f.ha, f.hi / 256 % 256, f.hi % 256, if f.wants = true then 1 else 0] := by unfold tail_; rw [if_pos k3]; rfl
    rw [ht] at n
    have n15 : nat (insd f) 15 2 = f.hc := (n 15 2).trans (two_nm _ hr.hc)
    have n17 : nat (insd f) 17 1 = f.ha := (n 17 1).trans (one_nm _)
    have n18 : nat (insd f) 18 2 = f.hi := (n 18 2).trans (two_nm _ hr.hi)
    have n20 : nat (insd f) 20 1 = if f.wants = true then 1 else 0 := (n 20 1).trans (one_nm _)
    rw [if_pos k3, if_pos k3]
    unfold fS
    rw [n15, n17, n18, n20, hD]
    have hb := size0 _ e6
    cases hw : f.wants <;> (refine ⟨?_, by decide⟩; cases f; simp only at *; subst e1 e2 e3 e4 e5 hb hw; rfl)
  · obtain ⟨d1, d2, d3, d4⟩ := bare_no3 f h4 k3
    rw [if_neg k3, if_neg k3]
    refine ⟨?_, rfl⟩
    by_cases k4 : f.kind = 4
    · have ht : tail_ f = [f.blk, f.vinc / 256 % 256, f.vinc % 256, IntKind.u16.wrap (f.vseq / 65536) / 256 % 256, IntKind.u16.wrap (f.vseq / 65536) % 256, IntKind.u16.wrap f.vseq / 256 % 256, IntKind.u16.wrap f.vseq % 256, f.part, f.parts] ++ bytesOf f.bytes := by unfold tail_; rw [if_neg k3, if_pos k4]; rfl
      rw [ht] at n
      have n15 : nat (insd f) 15 1 = f.blk := (n 15 1).trans (one_nm _)
      have n16 : nat (insd f) 16 2 = f.vinc := (n 16 2).trans (two_nm _ hr.vinc)
      have n18 : nat (insd f) 18 4 = f.vseq := (n 18 4).trans (four_nm _ hr.vseq)
      have n22 : nat (insd f) 22 1 = f.part := (n 22 1).trans (one_nm _)
      have n23 : nat (insd f) 23 1 = f.parts := (n 23 1).trans (one_nm _)
      have nb : (insd f).extract 24 (insd f).size = f.bytes := by
        apply bytes_inj
        rw [bytes_from, insd_bytes f hr h, ht]
        rfl
      rw [if_pos k4]
      unfold fT
      rw [n15, n16, n18, n22, n23, nb, hD]
      cases f
      simp only at *
      subst d1 d2 d3 d4
      rfl
    · obtain ⟨e1, e2, e3, e4, e5, e6⟩ := bare_no4 f h4 k4
      rw [if_neg k4, hD]
      have hb := size0 _ e6
      cases f
      simp only at *
      subst d1 d2 d3 d4 e1 e2 e3 e4 e5 hb
      rfl
theorem encs_size (f : Fr) (h : right f = true) : ((encs f).size : Int) = zsz f := by
  unfold encs
  rw [ByteArray.size_append, two8_size]
  have := insd_size f h
  omega
theorem encs_cut (f : Fr) : (encs f).extract 0 ((encs f).size - 2) = insd f := by
  apply bytes_inj
  rw [bytes_cut]
  unfold encs
  rw [ByteArray.size_append, two8_size, bytes_app, List.take_append_of_le_length (by rw [bytesOf_length]; omega), List.take_of_length_le (by rw [bytesOf_length]; omega)]
theorem encs_crc (f : Fr) : crc (encs f) = 0#16 := crc_seal _
theorem encs_nat (f : Fr) (hr : Rng f) (h : right f = true) (p m : Nat) (hp : p + m ≤ 15) : nat (encs f) p m = nat (insd f) p m := by
  have h2 := insd_size f h
  have h3 := zsz_rng f h
  exact nat_left _ _ _ _ (by omega)
theorem encs_len (f : Fr) (hr : Rng f) (h : right f = true) : isLen (encs f) := by
  have h1 := encs_size f h
  have h3 := zsz_rng f h
  have h4 : nat (encs f) 1 1 = zsz f := (encs_nat f hr h 1 1 (by omega)).trans ((insd_nat f hr h 1 1).trans (one_nm _))
  exact ⟨by omega, by omega, by omega⟩
/-- The sizes that a kind of frame may have. -/
def okSize (k : Int) (n : Nat) : Prop := (k = 3 ∧ n = 23) ∨ (k = 4 ∧ 27 ≤ n ∧ n ≤ 42) ∨ ((k = 1 ∨ k = 2 ∨ k = 5) ∧ n = 17)
theorem okSize_lo {k : Int} {n : Nat} (h : okSize k n) : 17 ≤ n ∧ n ≤ 42 ∧ 1 ≤ k ∧ k ≤ 5 := by
  unfold okSize at h
  omega
instance (k : Int) (n : Nat) : Decidable (okSize k n) := by unfold okSize; infer_instance
/-- What stands ahead of the sum. -/
def ahead (s : ByteArray) : ByteArray := s.extract 0 (s.size - 2)
theorem ahead_size (s : ByteArray) : (ahead s).size = s.size - 2 := by unfold ahead; rw [ByteArray.size_extract]; omega
theorem ahead_nat (s : ByteArray) (p m : Nat) (h : p + m ≤ s.size - 2) : nat (ahead s) p m = nat s p m := nat_cut s _ p m h
theorem rdf_rng (y : ByteArray) : Rng (rdf y) := by
  have n1 : ∀ p, 0 ≤ nat y p 1 ∧ nat y p 1 < 256 := fun p => nat_rng y p 1
  have n2 : ∀ p, 0 ≤ nat y p 2 ∧ nat y p 2 < 65536 := fun p => nat_rng y p 2
  have n4 : ∀ p, 0 ≤ nat y p 4 ∧ nat y p 4 < 4294967296 := fun p => nat_rng y p 4
  have z1 : (0 : Int) ≤ 0 ∧ (0 : Int) < 256 := by omega
  have z2 : (0 : Int) ≤ 0 ∧ (0 : Int) < 65536 := by omega
  have z4 : (0 : Int) ≤ 0 ∧ (0 : Int) < 4294967296 := by omega
  unfold rdf
  split
  · exact ⟨n1 2, n1 5, n2 3, n2 6, n2 8, n1 10, n2 11, n2 13, n2 15, n1 17, n2 18, z1, z2, z4, z1, z1⟩
  · split
    · exact ⟨n1 2, n1 5, n2 3, n2 6, n2 8, n1 10, n2 11, n2 13, z2, z1, z2, n1 15, n2 16, n4 18, n1 22, n1 23⟩
    · exact ⟨n1 2, n1 5, n2 3, n2 6, n2 8, n1 10, n2 11, n2 13, z2, z1, z2, z1, z2, z4, z1, z1⟩
theorem rdf_kind (y : ByteArray) : (rdf y).kind = nat y 0 1 := by
  unfold rdf
  split
  · rfl
  · split <;> rfl
theorem two_nat (y : ByteArray) (p : Nat) (h : p + 2 ≤ y.size) : nat y p 2 / 256 % 256 = nat y p 1 ∧ nat y p 2 % 256 = nat y (p + 1) 1 := by
  have a1 : 0 ≤ nat y p 1 ∧ nat y p 1 < 256 := nat_rng y p 1
  have a2 : 0 ≤ nat y (p + 1) 1 ∧ nat y (p + 1) 1 < 256 := nat_rng y (p + 1) 1
  rw [nat_two y p h]
  omega
theorem four_nat (y : ByteArray) (p : Nat) (h : p + 4 ≤ y.size) : IntKind.u16.wrap (nat y p 4 / 65536) / 256 % 256 = nat y p 1 ∧ IntKind.u16.wrap (nat y p 4 / 65536) % 256 = nat y (p + 1) 1 ∧ IntKind.u16.wrap (nat y p 4) / 256 % 256 = nat y (p + 2) 1 ∧ IntKind.u16.wrap (nat y p 4) % 256 = nat y (p + 3) 1 := by
  have a1 : 0 ≤ nat y p 1 ∧ nat y p 1 < 256 := nat_rng y p 1
  have a2 : 0 ≤ nat y (p + 1) 1 ∧ nat y (p + 1) 1 < 256 := nat_rng y (p + 1) 1
  have a3 : 0 ≤ nat y (p + 2) 1 ∧ nat y (p + 2) 1 < 256 := nat_rng y (p + 2) 1
  have a4 : 0 ≤ nat y (p + 3) 1 ∧ nat y (p + 3) 1 < 256 := nat_rng y (p + 3) 1
  rw [nat_four y p h, u16_in, u16_in]
  omega
/-- What can be decoded is that frame's bytes. -/
theorem back (y : ByteArray) (hz : okSize (nat y 0 1) (y.size + 2)) (hl : nat y 1 1 = y.size + 2) (hb : rdb y = true) (hr : right (rdf y) = true) : insd (rdf y) = y := by
  have hz2 := okSize_lo hz
  have t3 := two_nat y 3 (by omega)
  have t6 := two_nat y 6 (by omega)
  have t8 := two_nat y 8 (by omega)
  have t11 := two_nat y 11 (by omega)
  have t13 := two_nat y 13 (by omega)
  apply bytes_inj
  rw [insd_bytes _ (rdf_rng y) hr]
  have hk := rdf_kind y
  unfold rdf at hk ⊢
  unfold rdb at hb
  unfold okSize at hz
  by_cases k3 : nat y 0 1 = 3
  · rw [if_pos k3] at hb
    have hsz : y.size = 21 := by omega
    have t15 := two_nat y 15 (by omega)
    have t18 := two_nat y 18 (by omega)
    have h20 := of_decide_eq_true hb
    have h20b := (nat_rng y 20 1).1
    have hw : (if (nat y 20 1 == 1) = true then (1 : Int) else 0) = nat y 20 1 := by
      by_cases h : nat y 20 1 = 1
      · rw [h]; rfl
      · rw [if_neg (by simpa using h)]
        omega
    rw [if_pos k3]
    rw [bytes_split y 21 (by omega), List.drop_eq_nil_of_le (by rw [bytesOf_length]; omega), List.append_nil]
    have hzz : zsz (fS y) = nat y 1 1 := by
      rw [hl, hsz]
      unfold zsz
      rw [if_pos (show (fS y).kind = 3 from k3)]
      rfl
    have ht : tail_ (fS y) = [nat y 15 2 / 256 % 256, nat y 15 2 % 256, nat y 17 1, nat y 18 2 / 256 % 256, nat y 18 2 % 256, if (nat y 20 1 == 1) = true then 1 else 0] := by
      unfold tail_
      rw [if_pos (show (fS y).kind = 3 from k3)]
      rfl
    unfold hd15
    rw [ht, hw, hzz, t15.1, t15.2, t18.1, t18.2]
    show nat y 0 1 :: nat y 1 1 :: nat y 2 1 :: nat y 3 2 / 256 % 256 :: nat y 3 2 % 256 :: nat y 5 1 :: nat y 6 2 / 256 % 256 :: nat y 6 2 % 256 :: nat y 8 2 / 256 % 256 :: nat y 8 2 % 256 :: nat y 10 1 :: nat y 11 2 / 256 % 256 :: nat y 11 2 % 256 :: nat y 13 2 / 256 % 256 :: nat y 13 2 % 256 :: _ = _
    rw [t3.1, t3.2, t6.1, t6.2, t8.1, t8.2, t11.1, t11.2, t13.1, t13.2]
    rfl
  · rw [if_neg k3]
    by_cases k4 : nat y 0 1 = 4
    · have t16 := two_nat y 16 (by omega)
      have t18 := four_nat y 18 (by omega)
      rw [if_pos k4]
      rw [bytes_split y 24 (by omega)]
      have hzz : zsz (fT y) = nat y 1 1 := by
        rw [hl]
        unfold zsz
        rw [if_neg (show ¬ (fT y).kind = 3 from k3), if_pos (show (fT y).kind = 4 from k4)]
        show (26 : Int) + (((y.extract 24 y.size).size : Nat) : Int) = _
        rw [ByteArray.size_extract]
        omega
      have ht : tail_ (fT y) = [nat y 15 1, nat y 16 2 / 256 % 256, nat y 16 2 % 256, IntKind.u16.wrap (nat y 18 4 / 65536) / 256 % 256, IntKind.u16.wrap (nat y 18 4 / 65536) % 256, IntKind.u16.wrap (nat y 18 4) / 256 % 256, IntKind.u16.wrap (nat y 18 4) % 256, nat y 22 1, nat y 23 1] ++ (bytesOf y).drop 24 := by
        unfold tail_
        rw [if_neg (show ¬ (fT y).kind = 3 from k3), if_pos (show (fT y).kind = 4 from k4), ← bytes_from]
        rfl
      unfold hd15
      rw [ht, hzz, t16.1, t16.2, t18.1, t18.2.1, t18.2.2.1, t18.2.2.2]
      show nat y 0 1 :: nat y 1 1 :: nat y 2 1 :: nat y 3 2 / 256 % 256 :: nat y 3 2 % 256 :: nat y 5 1 :: nat y 6 2 / 256 % 256 :: nat y 6 2 % 256 :: nat y 8 2 / 256 % 256 :: nat y 8 2 % 256 :: nat y 10 1 :: nat y 11 2 / 256 % 256 :: nat y 11 2 % 256 :: nat y 13 2 / 256 % 256 :: nat y 13 2 % 256 :: _ = _
      rw [t3.1, t3.2, t6.1, t6.2, t8.1, t8.2, t11.1, t11.2, t13.1, t13.2]
      rfl
    · rw [if_neg k4]
      have hsz : y.size = 15 := by omega
      rw [bytes_split y 15 (by omega), List.drop_eq_nil_of_le (by rw [bytesOf_length]; omega), List.append_nil]
      have hzz : zsz (fD y) = nat y 1 1 := by
        rw [hl, hsz]
        unfold zsz
        rw [if_neg (show ¬ (fD y).kind = 3 from k3), if_neg (show ¬ (fD y).kind = 4 from k4)]
        rfl
      have ht : tail_ (fD y) = [] := by
        unfold tail_
        rw [if_neg (show ¬ (fD y).kind = 3 from k3), if_neg (show ¬ (fD y).kind = 4 from k4)]
      unfold hd15
      rw [ht, hzz]
      show nat y 0 1 :: nat y 1 1 :: nat y 2 1 :: nat y 3 2 / 256 % 256 :: nat y 3 2 % 256 :: nat y 5 1 :: nat y 6 2 / 256 % 256 :: nat y 6 2 % 256 :: nat y 8 2 / 256 % 256 :: nat y 8 2 % 256 :: nat y 10 1 :: nat y 11 2 / 256 % 256 :: nat y 11 2 % 256 :: nat y 13 2 / 256 % 256 :: nat y 13 2 % 256 :: _ = _
      rw [t3.1, t3.2, t6.1, t6.2, t8.1, t8.2, t11.1, t11.2, t13.1, t13.2]
      rfl
theorem back_all (s : ByteArray) (hl : isLen s) (hc : crc s = 0#16) (hz : okSize (nat s 0 1) s.size) (hb : rdb (ahead s) = true) (hr : right (rdf (ahead s)) = true) : encs (rdf (ahead s)) = s := by
  have h2 := okSize_lo hz
  have h3 := ahead_size s
  unfold isLen at hl
  have e := back (ahead s) (by rw [ahead_nat s 0 1 (by omega), h3, show s.size - 2 + 2 = s.size by omega]; exact hz) (by rw [ahead_nat s 1 1 (by omega), h3]; omega) hb hr
  unfold encs
  rw [e]
  exact (sealed_iff s (by omega)).2 hc
end Go.Proofs.YtkcaifpmceoflaaDoor.Frm
namespace Go.Proofs.YtkcaifpmceoflaaDoor.Frm
open Go.RowKit Go.Proofs.YtkcaifpmceoflaaDoorW.PrintWords Go.Proofs.YtkcaifpmceoflaaDoorW.PrintLast Go.Proofs.YtkcaifpmceoflaaDoorW.PrintMore
set_option linter.unusedVariables false
set_option linter.unusedSimpArgs false
theorem shape_1 : Own.frame_shapes.f 1 = some (⟨#[116, 111, 107, 101, 110]⟩, true, 17, 17, true) := rfl
theorem shape_2 : Own.frame_shapes.f 2 = some (⟨#[112, 111, 108, 108]⟩, true, 17, 17, true) := rfl
theorem shape_3 : Own.frame_shapes.f 3 = some (⟨#[115, 116, 97, 116, 117, 115]⟩, true, 23, 23, true) := rfl
theorem shape_4 : Own.frame_shapes.f 4 = some (⟨#[100, 97, 116, 97]⟩, false, 27, 42, true) := rfl
theorem shape_5 : Own.frame_shapes.f 5 = some (⟨#[108, 101, 97, 118, 101]⟩, true, 17, 17, true) := rfl
theorem shape_no (k : Int) (h : ¬ (1 ≤ k ∧ k ≤ 5)) : Own.frame_shapes.f k = some (⟨#[63]⟩, true, 0, 0, false) := by
  unfold Own.frame_shapes.f
  rw [if_neg (by omega), if_neg (by omega), if_neg (by omega), if_neg (by omega), if_neg (by omega)]
/-- What a kind's row says, in one piece. -/
theorem shape_ok (k : Int) (h : 1 ≤ k ∧ k ≤ 5) : ∃ n t a b, Own.frame_shapes.f k = some (n, t, a, b, true) ∧ 0 ≤ a ∧ a ≤ 1000 ∧ (k = 3 → a = 23 ∧ b = 23) ∧ (k = 4 → a = 27 ∧ b = 42) ∧ (k ≠ 3 → k ≠ 4 → a = 17 ∧ b = 17) := by
  obtain rfl | rfl | rfl | rfl | rfl : k = 1 ∨ k = 2 ∨ k = 3 ∨ k = 4 ∨ k = 5 := by omega
  · exact ⟨_, _, _, _, shape_1, by omega, by omega, fun h => absurd h (by decide), fun h => absurd h (by decide), fun _ _ => ⟨rfl, rfl⟩⟩
  · exact ⟨_, _, _, _, shape_2, by omega, by omega, fun h => absurd h (by decide), fun h => absurd h (by decide), fun _ _ => ⟨rfl, rfl⟩⟩
  · exact ⟨_, _, _, _, shape_3, by omega, by omega, fun _ => ⟨rfl, rfl⟩, fun h => absurd h (by decide), fun h => absurd rfl h⟩
  · exact ⟨_, _, _, _, shape_4, by omega, by omega, fun h => absurd h (by decide), fun _ => ⟨rfl, rfl⟩, fun _ h => absurd rfl h⟩
  · exact ⟨_, _, _, _, shape_5, by omega, by omega, fun h => absurd h (by decide), fun h => absurd h (by decide), fun _ _ => ⟨rfl, rfl⟩⟩
theorem size_r (w : World) (f : Fr) (h : right f = true) : Calls Tryd.prog 14 #[.agg (FC f)] w fun e w' => e = .returned (.int .i64 (zsz f)) ∧ Below w.heap.size w w' := by
  obtain ⟨h1, h2, h3, h4⟩ := right_parts f h
  obtain ⟨n, t, a, b, hs, ha, hb, e3, e4, e5⟩ := shape_ok f.kind h1
  have hbs : f.bytes.size ≤ 16 := by
    by_cases k4 : f.kind = 4
    · have := bare_4 f h4 k4; omega
    · have := bare_no4 f h4 k4; omega
  have e : a + mx ((f.bytes.size : Int) - 1) 0 = zsz f := by
    unfold zsz mx
    by_cases k3 : f.kind = 3
    · have := bare_3 f h4 k3
      have := e3 k3
      rw [if_pos k3]
      split <;> omega
    · rw [if_neg k3]
      by_cases k4 : f.kind = 4
      · have := bare_4 f h4 k4
        have := e4 k4
        rw [if_pos k4]
        split <;> omega
      · have := bare_no4 f h4 k4
        have := e5 k3 k4
        rw [if_neg k4]
        split <;> omega
  rw [← e]
  exact size_yes w f h n t true a b hs ⟨ha, hb⟩ (by omega)
theorem right_small (f : Fr) (h : right f = true) : f.bytes.size ≤ 16 := by
  obtain ⟨h1, h2, h3, h4⟩ := right_parts f h
  by_cases k4 : f.kind = 4
  · have := bare_4 f h4 k4; omega
  · have := bare_no4 f h4 k4; omega
theorem insd_le (f : Fr) (h : right f = true) : (insd f).size ≤ 40 := by
  have h1 := insd_size f h
  have h2 := zsz_rng f h
  omega
theorem enc_r (w : World) (f : Fr) (h : right f = true) : Calls Tryd.prog 9 #[.agg (FC f)] w fun e w' => e = .returned (.tuple #[.string (encs f), .int .i64 0]) ∧ Below w.heap.size w w' :=
  encode_yes w f h (zsz f) (fun W => size_r W f h) (by have := right_small f h; omega) (encs f) _ (sealed_z (insd f) (by have := insd_le f h; omega))
instance (s : ByteArray) : Decidable (isLen s) := by unfold isLen; infer_instance
/-- The error that Decode answers. -/
def derr (s : ByteArray) : Int :=
  if isLen s then
    if crc s = 0#16 then
      if 1 ≤ nat s 0 1 ∧ nat s 0 1 ≤ 5 then
        if okSize (nat s 0 1) s.size then
          if rdb (ahead s) = true ∧ right (rdf (ahead s)) = true then 0 else 3
        else 10
      else 11
    else 9
  else 10
/-- The frame. -/
def decf (s : ByteArray) : Fr := if derr s = 0 then rdf (ahead s) else fz
theorem dec_f (w : World) (s : ByteArray) (hs : s.size ≤ 1000000) : Calls Tryd.prog 15 #[.string s] w fun e w' => e = .returned (.tuple #[.agg (FC (decf s)), .int .i64 (derr s)]) ∧ Below w.heap.size w w' := by
  unfold decf derr
  by_cases hl : isLen s
  · rw [if_pos hl]
    have hl2 := hl
    unfold isLen at hl2
    by_cases hc : crc s = 0#16
    · have ho := open_yes s hs (by omega) hc
      rw [if_pos hc]
      by_cases hk : 1 ≤ nat s 0 1 ∧ nat s 0 1 ≤ 5
      · rw [if_pos hk]
        obtain ⟨n, t, a, b, hsh, ha, hb, e3, e4, e5⟩ := shape_ok _ hk
        by_cases hz : okSize (nat s 0 1) s.size
        · rw [if_pos hz]
          have hab : a ≤ s.size ∧ (s.size : Int) ≤ b := by
            unfold okSize at hz
            by_cases k3 : nat s 0 1 = 3
            · have := e3 k3
              omega
            · by_cases k4 : nat s 0 1 = 4
              · have := e4 k4
                omega
              · have := e5 k3 k4
                omega
          have hy := ahead_size s
          have h0 : nat (ahead s) 0 1 = nat s 0 1 := ahead_nat s 0 1 (by omega)
          have y3 : nat (ahead s) 0 1 = 3 → 21 ≤ (ahead s).size := fun h => by
            have := e3 (h0.symm.trans h)
            omega
          have y4 : nat (ahead s) 0 1 = 4 → 24 ≤ (ahead s).size := fun h => by
            have := e4 (h0.symm.trans h)
            omega
          cases hb2 : rdb (ahead s) with
          | false =>
            rw [if_neg (by simp)]
            exact dec_read w s (ahead s) _ hl ho n t a b hsh hab (by omega) y3 y4 hb2
          | true =>
            cases hr : right (rdf (ahead s)) with
            | false =>
              rw [if_neg (by simp)]
              exact dec_right w s (ahead s) _ hl ho n t a b hsh hab (by omega) y3 y4 hb2 hr
            | true =>
              rw [if_pos (by simp)]
              exact dec_ok w s (ahead s) _ hl ho n t a b hsh hab (by omega) y3 y4 hb2 hr
        · rw [if_neg hz]
          refine dec_size w s _ _ hl ho n t a b hsh ?_
          intro hab
          apply hz
          unfold okSize
          by_cases k3 : nat s 0 1 = 3
          · have := e3 k3
            omega
          · by_cases k4 : nat s 0 1 = 4
            · have := e4 k4
              omega
            · have := e5 k3 k4
              omega
      · rw [if_neg hk]
        exact dec_kind w s _ _ hl ho _ _ _ _ (shape_no _ hk)
    · rw [if_neg hc]
      exact dec_crc w s _ _ hl (open_no s hs (by omega) hc)
  · rw [if_neg hl]
    exact dec_len w s hs hl
theorem encs_okSize (f : Fr) (hr : Rng f) (h : right f = true) : okSize (nat (encs f) 0 1) (encs f).size := by
  obtain ⟨h1, h2, h3, h4⟩ := right_parts f h
  have e1 : nat (encs f) 0 1 = f.kind := (encs_nat f hr h 0 1 (by omega)).trans (insd_kind f hr h)
  have e2 := encs_size f h
  rw [e1]
  unfold okSize
  unfold zsz at e2
  by_cases k3 : f.kind = 3
  · rw [if_pos k3] at e2
    omega
  · rw [if_neg k3] at e2
    by_cases k4 : f.kind = 4
    · rw [if_pos k4] at e2
      have := bare_4 f h4 k4
      omega
    · rw [if_neg k4] at e2
      omega
/-- What was encoded is decoded back. -/
theorem dec_encs (f : Fr) (hr : Rng f) (h : right f = true) : derr (encs f) = 0 ∧ decf (encs f) = f := by
  have e : ahead (encs f) = insd f := encs_cut f
  have e1 : nat (encs f) 0 1 = f.kind := (encs_nat f hr h 0 1 (by omega)).trans (insd_kind f hr h)
  obtain ⟨r1, r2⟩ := rdf_insd f hr h
  have h0 : derr (encs f) = 0 := by
    unfold derr
    rw [if_pos (encs_len f hr h), if_pos (encs_crc f), if_pos (by rw [e1]; exact (right_parts f h).1), if_pos (encs_okSize f hr h), e, r1, if_pos ⟨r2, h⟩]
  refine ⟨h0, ?_⟩
  unfold decf
  rw [if_pos h0, e, r1]
theorem encs_le (f : Fr) (h : right f = true) : 17 ≤ (encs f).size ∧ (encs f).size ≤ 42 := by
  have h1 := encs_size f h
  have h2 := zsz_rng f h
  omega
/-- Of another length than its second byte says: refused. -/
theorem derr_len (s : ByteArray) (h : ¬ isLen s) : derr s = 10 ∧ decf s = fz := by
  have h0 : derr s = 10 := by
    unfold derr
    rw [if_neg h]
  refine ⟨h0, ?_⟩
  unfold decf
  rw [if_neg (by rw [h0]; decide)]
theorem cut_len (f : Fr) (hr : Rng f) (h : right f = true) (n : Nat) (hn : n < (encs f).size) : ¬ isLen ((encs f).extract 0 n) := by
  intro hl
  unfold isLen at hl
  have h1 := encs_len f hr h
  unfold isLen at h1
  have h2 : ((encs f).extract 0 n).size = n := by rw [ByteArray.size_extract]; omega
  rw [h2, nat_cut _ n 1 1 (by omega)] at hl
  omega
theorem more_len (f : Fr) (hr : Rng f) (h : right f = true) (t : ByteArray) (ht : t.size ≠ 0) : ¬ isLen (encs f ++ t) := by
  intro hl
  unfold isLen at hl
  have h1 := encs_len f hr h
  unfold isLen at h1
  rw [nat_left _ _ 1 1 (by omega), ByteArray.size_append] at hl
  omega
end Go.Proofs.YtkcaifpmceoflaaDoor.Frm

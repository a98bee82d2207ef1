/- Plain facts on blocks that stand apart: each value is found in the inputs where it stands, the own bytes too, and all else is 0. No condition but those that each states. -/
import Derived.Test.YtojcflaghicdiaaOpen
import Derived.Test.YtojcflaghicdiaaOwnx5
import Derived.Test.YtojcflaghicdiaaPlain2
namespace Go.Proofs.Ytojcflaghicdiaa.Plain
set_option linter.unusedSectionVars false
open Go.RowKit Go.Proofs.Ytojcflaghicdiaa.Own Go.Proofs.YtojcflaghicdiaaW.PrintWords Go.Proofs.YtojcflaghicdiaaW.PrintLast Go.Proofs.YtojcflaghicdiaaW.PrintMore

def szn (l : List S32) (m : List S34) (i : Nat) : Nat := (fnd m (sp l i).f0).2.2.1.toNat
def atn (l : List S32) (i : Nat) : Nat := (sp l i).f1.toNat
def byt (i q : Nat) : UInt8 := UInt8.ofNat (1 + i * 16 + q % 16)
def val (l : List S32) (m : List S34) (i : Nat) : ByteArray := ⟨((List.range (szn l m i)).map (byt i)).toArray⟩
def valsL (l : List S32) (m : List S34) (k : Nat) : List ByteArray := (List.range k).map (val l m)
theorem val_data (l : List S32) (m : List S34) (i : Nat) : (val l m i).data.toList = (List.range (szn l m i)).map (byt i) := rfl
theorem val_size (l : List S32) (m : List S34) (i : Nat) : (val l m i).size = szn l m i := by rw [← data_length, val_data]; simp
theorem rd_vals (l : List S32) (m : List S34) (k i : Nat) (h : i < k) : rdOf ByteArray.empty (valsL l m k) (i : Int) = val l m i := by simp [rdOf, valsL, List.getD, h]
theorem byt_nat (i q : Nat) (hi : i < 15) : (byt i q).toNat = 1 + i * 16 + q % 16 := by
  unfold byt
  rw [UInt8.toNat_ofNat']
  exact Nat.mod_eq_of_lt (by have := Nat.mod_lt q (show 0 < 16 by decide); omega)
theorem byt_ne (i q : Nat) (hi : i < 15) : byt i q ≠ 0 := by
  intro h
  have := congrArg UInt8.toNat h
  rw [byt_nat i q hi] at this
  simp at this

/-! #### apart -/
def Cov (l : List S32) (m : List S34) (i j : Nat) : Prop := atn l i ≤ j ∧ j < atn l i + szn l m i
theorem apart_at {l : List S32} {m : List S34} : ∀ {d i U : Nat}, Apart l m d i U → ∀ q, i ≤ q → q < i + d → (sp l q).f1 = (atn l q : Int) ∧ (fnd m (sp l q).f0).2.2.1 = (szn l m q : Int) ∧ atn l q + szn l m q ≤ 64
  | 0, i, U, _, q, h1, h2 => by omega
  | d + 1, i, U, ⟨a, n, ha, hn, hf, _, h⟩, q, h1, h2 => by
    by_cases e : q = i
    · subst e
      have e1 : atn l q = a := by unfold atn; omega
      have e2 : szn l m q = n := by unfold szn; omega
      rw [e1, e2]
      exact ⟨ha, hn, hf⟩
    · exact apart_at h q (by omega) (by omega)
theorem apart_out {l : List S32} {m : List S34} : ∀ {d i U : Nat}, Apart l m d i U → ∀ q, i ≤ q → q < i + d → ∀ j, Cov l m q j → U.testBit j = false
  | 0, i, U, _, q, h1, h2, _, _ => by omega
  | d + 1, i, U, ⟨a, n, ha, hn, hf, hu, h⟩, q, h1, h2, j, hc => by
    by_cases e : q = i
    · subst e
      have e1 : atn l q = a := by unfold atn; omega
      have e2 : szn l m q = n := by unfold szn; omega
      unfold Cov at hc
      rw [e1, e2] at hc
      exact (and_mk U a n).mp hu j hc.1 hc.2
    · have := apart_out h q (by omega) (by omega) j hc
      rw [Nat.testBit_or] at this
      simpa using (Bool.or_eq_false_iff.mp this).1
theorem apart_two {l : List S32} {m : List S34} : ∀ {d i U : Nat}, Apart l m d i U → ∀ p q, i ≤ p → p < q → q < i + d → ∀ j, Cov l m p j → ¬ Cov l m q j
  | 0, i, U, _, p, q, h1, h2, h3, _, _ => by omega
  | d + 1, i, U, ⟨a, n, ha, hn, hf, hu, h⟩, p, q, h1, h2, h3, j, hp => by
    intro hq
    by_cases e : p = i
    · subst e
      have e1 : atn l p = a := by unfold atn; omega
      have e2 : szn l m p = n := by unfold szn; omega
      unfold Cov at hp
      rw [e1, e2] at hp
      have := apart_out h q (by omega) (by omega) j hq
      rw [Nat.testBit_or, mk_bit, decide_eq_true hp] at this
      simp at this
    · exact apart_two h p q (by omega) (by omega) (by omega) j hp hq
/-- How many of the first N are so. -/
def cn (p : Nat → Bool) (N : Nat) : Nat := ((List.range N).filter p).length
theorem cn_succ (p : Nat → Bool) (N : Nat) : cn p (N + 1) = cn p N + if p N = true then 1 else 0 := by
  unfold cn
  rw [List.range_succ, List.filter_append, List.length_append]
  by_cases h : p N = true
  · simp [h]
  · simp [h]
theorem cn_split (p q : Nat → Bool) : ∀ N, cn p N = cn (fun j => p j && q j) N + cn (fun j => p j && !q j) N
  | 0 => rfl
  | N + 1 => by
    rw [cn_succ, cn_succ, cn_succ, cn_split p q N]
    cases p N <;> cases q N <;> simp <;> omega
theorem cn_congr {p q : Nat → Bool} : ∀ {N : Nat}, (∀ j, j < N → p j = q j) → cn p N = cn q N
  | 0, _ => rfl
  | N + 1, h => by rw [cn_succ, cn_succ, cn_congr (fun j hj => h j (by omega)), h N (by omega)]
theorem cn_iv (a n : Nat) : ∀ N, cn (fun j => decide (a ≤ j ∧ j < a + n)) N = min N (a + n) - min N a
  | 0 => by simp [cn]
  | N + 1 => by
    rw [cn_succ, cn_iv a n N]
    by_cases h : a ≤ N ∧ N < a + n
    · rw [if_pos (decide_eq_true h)]; omega
    · rw [if_neg (by simpa using h)]; omega
def tot (l : List S32) (m : List S34) (i : Nat) : Nat → Nat
  | 0 => 0
  | d + 1 => szn l m i + tot l m (i + 1) d
def Any (l : List S32) (m : List S34) (i d j : Nat) : Prop := ∃ q, i ≤ q ∧ q < i + d ∧ Cov l m q j
open Classical in
theorem apart_count {l : List S32} {m : List S34} : ∀ {d i U : Nat}, Apart l m d i U → cn (fun j => !U.testBit j) 64 = cn (fun j => !U.testBit j && !decide (Any l m i d j)) 64 + tot l m i d
  | 0, i, U, _ => by
    rw [show tot l m i 0 = 0 from rfl, Nat.add_zero]
    refine cn_congr fun j _ => ?_
    rw [decide_eq_false (by rintro ⟨q, h1, h2, _⟩; omega)]
    simp
  | d + 1, i, U, ⟨a, n, ha, hn, hf, hu, h⟩ => by
    have e1 : atn l i = a := by unfold atn; omega
    have e2 : szn l m i = n := by unfold szn; omega
    have ih := apart_count h
    have hz := (and_mk U a n).mp hu
    rw [cn_split (fun j => !U.testBit j) (fun j => decide (a ≤ j ∧ j < a + n)) 64]
    have h1 : cn (fun j => !U.testBit j && decide (a ≤ j ∧ j < a + n)) 64 = n := by
      rw [cn_congr (q := fun j => decide (a ≤ j ∧ j < a + n)) (fun j _ => by
        by_cases h : a ≤ j ∧ j < a + n
        · rw [decide_eq_true h, hz j h.1 h.2]; rfl
        · rw [decide_eq_false h]; simp), cn_iv]
      omega
    have h2 : cn (fun j => !U.testBit j && !decide (a ≤ j ∧ j < a + n)) 64 = cn (fun j => !(U ||| mk a n).testBit j) 64 := cn_congr fun j _ => by
      rw [Nat.testBit_or, mk_bit]; simp
    have h3 : cn (fun j => !(U ||| mk a n).testBit j && !decide (Any l m (i + 1) d j)) 64 = cn (fun j => !U.testBit j && !decide (Any l m i (d + 1) j)) 64 := cn_congr fun j _ => by
      rw [Nat.testBit_or, mk_bit]
      by_cases hc : a ≤ j ∧ j < a + n
      · have : Any l m i (d + 1) j := ⟨i, by omega, by omega, by unfold Cov; rw [e1, e2]; exact hc⟩
        rw [decide_eq_true hc, decide_eq_true this]; simp
      · have : Any l m i (d + 1) j ↔ Any l m (i + 1) d j := ⟨fun ⟨q, k1, k2, k3⟩ => by
            by_cases e : q = i
            · subst e; unfold Cov at k3; rw [e1, e2] at k3; exact absurd k3 hc
            · exact ⟨q, by omega, by omega, k3⟩, fun ⟨q, k1, k2, k3⟩ => ⟨q, by omega, by omega, k3⟩⟩
        have hd : decide (Any l m (i + 1) d j) = decide (Any l m i (d + 1) j) := decide_eq_decide.mpr this.symm
        rw [decide_eq_false hc, hd]
        simp
    rw [h1, h2, ih, h3, show tot l m i (d + 1) = szn l m i + tot l m (i + 1) d from rfl, e2]
    omega

/-! #### the inputs' bytes -/
theorem gat_none (l : List S32) (m : List S34) (K : Nat) (b : UInt8) (j : Nat) (hA : ∀ q, q < K → (sp l q).f1 = (atn l q : Int)) : ∀ k, k ≤ K → (∀ q, q < k → ¬ Cov l m q j) → gat l (valsL l m K) b j k = b
  | 0, _, _ => rfl
  | k + 1, hk, hc => by
    unfold gat
    rw [if_neg, gat_none l m K b j hA k (by omega) (fun q hq => hc q (by omega))]
    rw [rd_vals l m K k (by omega), val_data, hA k (by omega)]
    have := hc k (by omega)
    unfold Cov at this
    simp
    omega
theorem gat_one (l : List S32) (m : List S34) (K : Nat) (b : UInt8) (j : Nat) (hA : ∀ q, q < K → (sp l q).f1 = (atn l q : Int)) (i : Nat) (hi : Cov l m i j) : ∀ k, k ≤ K → i < k → (∀ q, i < q → q < k → ¬ Cov l m q j) → gat l (valsL l m K) b j k = byt i (j - atn l i)
  | 0, _, h, _ => by omega
  | k + 1, hk, hik, hc => by
    unfold gat
    by_cases e : i = k
    · subst e
      unfold Cov at hi
      rw [rd_vals l m K i (by omega), val_data, hA i (by omega), if_pos (by simp; omega)]
      rw [show ((j : Int) - (atn l i : Int)).toNat = j - atn l i by omega]
      simp only [List.getD]
      rw [List.getElem?_map, List.getElem?_range (by omega)]
      rfl
    · rw [if_neg, gat_one l m K b j hA i hi k (by omega) (by omega) (fun q h1 h2 => hc q h1 (by omega))]
      rw [rd_vals l m K k (by omega), val_data, hA k (by omega)]
      have := hc k (by omega) (by omega)
      unfold Cov at this
      simp
      omega

section
variable (l : List S32) (m : List S34) (loc : Nat) (own : ByteArray)
/-- The inputs. -/
def area : List UInt8 := inp l (valsL l m l.length) (image_Inputs.b0 (loc : Int) own) (min l.length (valsL l m l.length).length)
theorem area_len : (area l m loc own).length = 64 := by unfold area; rw [inp_len, image_Inputs.b0_len]
theorem vals_len (k : Nat) : (valsL l m k).length = k := by simp [valsL]
theorem area_gd (j : Nat) (hj : j < 64) : (area l m loc own).getD j 0 = gat l (valsL l m l.length) (base (loc : Int) own j) j l.length := by
  unfold area
  rw [inp_gd _ _ _ _ (by rw [image_Inputs.b0_len]; exact hj), b0_gd _ _ _ hj, vals_len, Nat.min_self]
variable (hA : Apart l m l.length 0 (mk 0 loc)) (hl : l.length ≤ 15)
include hA hl
theorem area_cov (i j : Nat) (hi : i < l.length) (hj : j < 64) (hc : Cov l m i j) : (area l m loc own).getD j 0 = byt i (j - atn l i) := by
  rw [area_gd l m loc own j hj]
  exact gat_one l m l.length _ j (fun q hq => (apart_at hA q (by omega) (by omega)).1) i hc l.length (Nat.le_refl _) hi (fun q h1 h2 => apart_two hA i q (by omega) h1 (by omega) j hc)
theorem area_out (j : Nat) (hj : j < 64) (hc : ¬ Any l m 0 l.length j) : (area l m loc own).getD j 0 = base (loc : Int) own j := by
  rw [area_gd l m loc own j hj]
  exact gat_none l m l.length _ j (fun q hq => (apart_at hA q (by omega) (by omega)).1) l.length (Nat.le_refl _) (fun q hq h => hc ⟨q, by omega, by omega, h⟩)
theorem loc_out (j : Nat) (hj : j < loc) : ¬ Any l m 0 l.length j := by
  rintro ⟨q, h1, h2, h3⟩
  have := apart_out hA q h1 h2 j h3
  rw [mk_bit, decide_eq_true (by omega)] at this
  cases this
theorem area_own (j : Nat) (hj : j < loc) (hj2 : j < 64) : (area l m loc own).getD j 0 = own.data.toList.getD j 0 := by
  rw [area_out l m loc own hA hl j hj2 (loc_out l m loc hA hl j hj)]
  unfold base
  rw [if_pos (by omega)]
theorem area_zero (j : Nat) (hj : loc ≤ j) (hj2 : j < 64) : ((area l m loc own).getD j 0 = 0) ↔ ¬ Any l m 0 l.length j := by
  constructor
  · rintro h ⟨q, h1, h2, h3⟩
    rw [area_cov l m loc own hA hl q j (by omega) hj2 h3] at h
    exact byt_ne q _ (by omega) h
  · intro h
    rw [area_out l m loc own hA hl j hj2 h]
    unfold base
    rw [if_neg (by omega)]
open Classical in
theorem zeros_count (hloc : loc ≤ 64) : cn (fun j => decide (loc ≤ j) && decide ((area l m loc own).getD j 0 = 0)) 64 + tot l m 0 l.length = 64 - loc := by
  have h := apart_count hA
  have h1 : cn (fun j => !(mk 0 loc).testBit j) 64 = 64 - loc := by
    rw [cn_congr (q := fun j => decide (loc ≤ j ∧ j < loc + 64)) (fun j hj => by
      rw [mk_bit]
      by_cases h : j < loc
      · rw [decide_eq_true (by omega), decide_eq_false (by omega)]; rfl
      · rw [decide_eq_false (by omega), decide_eq_true (by omega)]; rfl), cn_iv]
    omega
  have h2 : cn (fun j => !(mk 0 loc).testBit j && !decide (Any l m 0 l.length j)) 64 = cn (fun j => decide (loc ≤ j) && decide ((area l m loc own).getD j 0 = 0)) 64 := cn_congr fun j hj => by
    rw [mk_bit]
    by_cases h : j < loc
    · rw [decide_eq_true (show 0 ≤ j ∧ j < 0 + loc by omega), decide_eq_false (show ¬ loc ≤ j by omega)]; simp
    · rw [decide_eq_false (show ¬ (0 ≤ j ∧ j < 0 + loc) by omega), decide_eq_true (show loc ≤ j by omega)]
      have := area_zero l m loc own hA hl j (by omega) hj
      by_cases h0 : (area l m loc own).getD j 0 = 0
      · rw [decide_eq_true h0, decide_eq_false (this.mp h0)]; rfl
      · rw [decide_eq_false h0, decide_eq_true (by by_cases hn : Any l m 0 l.length j; exact hn; exact absurd (this.mpr hn) h0)]; rfl
  omega
/-- Each value is read back. -/
theorem value_back (i : Nat) (hi : i < l.length) : image_Value.f ⟨(area l m loc own).toArray⟩ (sp l i).f1 (szn l m i : Int) = some (val l m i) := by
  obtain ⟨h1, h2, h3⟩ := apart_at hA i (by omega) (by omega)
  have hal := area_len l m loc own
  have hz : vsz (szn l m i : Int) = szn l m i := by unfold vsz; omega
  unfold image_Value.f
  rw [if_pos (by show (area l m loc own).toArray.size ≤ _; simp [hal]), hz]
  have hd : (ByteArray.mk (area l m loc own).toArray).data.toList = area l m loc own := rfl
  rw [hd, h1]
  have hv : vals (area l m loc own) (atn l i : Int) (szn l m i) = (List.range (szn l m i)).map (byt i) := by
    unfold vals
    by_cases h0 : szn l m i = 0
    · rw [h0]
      by_cases hc : ((area l m loc own).length : Int) ≤ (atn l i : Int) ∨ (atn l i : Int) ≤ -((0 : Nat) : Int)
      · rw [if_pos hc]; rfl
      · rw [if_neg hc, if_neg (by omega)]
        exact List.eq_nil_of_length_eq_zero (over_len _ _ _ (Nat.zero_le _))
    · rw [if_neg (by rw [hal]; omega), if_neg (by omega), Int.toNat_natCast]
      refine List.ext_getElem (by rw [over_len _ _ _ (Nat.zero_le _)]; simp) fun q hq1 hq2 => ?_
      simp at hq2
      have hg := over_gd (List.replicate (szn l m i) 0) 0 ((area l m loc own).drop (atn l i)) (Nat.zero_le _) q
      rw [if_pos (by rw [List.length_drop, hal, List.length_replicate]; omega)] at hg
      have hc := area_cov l m loc own hA hl i (atn l i + q) hi (by omega) ⟨by omega, by omega⟩
      simp only [List.getD, List.getElem?_drop, Nat.sub_zero] at hg hc
      rw [hc, show atn l i + q - atn l i = q by omega] at hg
      rw [List.getElem?_eq_getElem hq1] at hg
      simp only [List.getElem_map, List.getElem_range]
      exact hg
  rw [hv]
  rfl
/-- The last loop counts the zeros. -/
theorem zeros_loop (hloc : loc ≤ 64) (count : Nat) (hcount : count = tot l m 0 l.length) : ∀ (d j : Nat), 64 - j = d → loc ≤ j → j ≤ 64 →
    Ev (fun k => fuglemanlaw19_ImageApart.l4 k (loc : Int) ⟨(area l m loc own).toArray⟩ (count : Int) ((cn (fun q => decide (loc ≤ q) && decide ((area l m loc own).getD q 0 = 0)) j : Nat) : Int) j) true
  | 0, j, hd, h1, h2 => by
    obtain rfl : j = 64 := by omega
    have hz := zeros_count l m loc own hA hl hloc
    have hs : (ByteArray.mk (area l m loc own).toArray).size = 64 := by show (area l m loc own).toArray.size = 64; simp [area_len]
    refine Ev.step (f := fun _ => some _) (fun k => ?_) (Ev.now _)
    simp only [fuglemanlaw19_ImageApart.l4]
    rw [if_neg (by omega), if_pos (by rw [hs]; rfl), w64 (x := 64 - (loc : Int)) (by omega) (by omega), w64 (by omega) (by omega)]
    congr 1
    rw [beq_iff_eq]
    omega
  | d + 1, j, hd, h1, h2 => by
    have ih := zeros_loop hloc count hcount d (j + 1) (by omega) (by omega) (by omega)
    have hs : (ByteArray.mk (area l m loc own).toArray).size = 64 := by show (area l m loc own).toArray.size = 64; simp [area_len]
    have hc : cn (fun q => decide (loc ≤ q) && decide ((area l m loc own).getD q 0 = 0)) j ≤ j := by
      unfold cn
      exact Nat.le_trans (List.length_filter_le _ _) (by simp)
    rw [cn_succ] at ih
    have hbt : bt ⟨(area l m loc own).toArray⟩ (j : Int) = (((area l m loc own).getD j 0).toNat : Int) := by rw [bt_gd, Int.toNat_natCast]
    refine Ev.step (fun k => ?_) ih
    simp only [fuglemanlaw19_ImageApart.l4]
    rw [if_pos (by omega), if_pos (by omega), if_pos (by omega), hbt]
    by_cases h0 : (area l m loc own).getD j 0 = 0
    · rw [if_pos (by rw [h0]; rfl), if_pos (by rw [decide_eq_true h1, decide_eq_true h0]; rfl), w64 (x := (j : Int) + 1) (by omega) (by omega), w64 (by omega) (by omega)]
      rfl
    · rw [if_neg (fun h => h0 (by
        have h' : ((area l m loc own).getD j 0).toNat = 0 := by omega
        exact UInt8.toNat_inj.mp h')), if_neg (by rw [decide_eq_false h0]; simp), w64 (by omega) (by omega), Nat.add_zero]
      rfl
theorem own_loop (hloc : loc ≤ 64) (count : Nat) (hcount : count = tot l m 0 l.length) : ∀ (d j : Nat), loc - j = d → j ≤ loc →
    Ev (fun k => fuglemanlaw19_ImageApart.l3 k (loc : Int) own ⟨(area l m loc own).toArray⟩ (count : Int) (loc : Int) j) true
  | 0, j, hd, h1 => by
    obtain rfl : j = loc := by omega
    have h := zeros_loop l m j own hA hl hloc count hcount _ j rfl (Nat.le_refl _) hloc
    have h0 : cn (fun q => decide (j ≤ q) && decide ((area l m j own).getD q 0 = 0)) j = 0 := by
      unfold cn
      rw [List.length_eq_zero_iff, List.filter_eq_nil_iff]
      intro q hq
      have : q < j := by simpa using hq
      rw [decide_eq_false (by omega)]
      simp
    rw [h0] at h
    refine Ev.step (fun k => ?_) h
    simp only [fuglemanlaw19_ImageApart.l3]
    rw [if_neg (by omega)]
    rfl
  | d + 1, j, hd, h1 => by
    have hs : (ByteArray.mk (area l m loc own).toArray).size = 64 := by show (area l m loc own).toArray.size = 64; simp [area_len]
    have hbt : bt ⟨(area l m loc own).toArray⟩ (j : Int) = ((own.data.toList.getD j 0).toNat : Int) := by
      rw [bt_gd, Int.toNat_natCast]
      have := area_own l m loc own hA hl j (by omega) (by omega)
      rw [← this]
    have hb : fuglemanref19_Byte.f own (j : Int) = some ((own.data.toList.getD j 0).toNat : Int) := by
      unfold fuglemanref19_Byte.f
      have hlen := data_length own
      rw [if_neg (by omega)]
      by_cases h2 : (j : Int) ≥ (own.size : Int)
      · rw [if_pos h2]
        simp only [List.getD]
        rw [List.getElem?_eq_none (by omega)]
        rfl
      · rw [if_neg h2, if_pos (by omega), if_pos (by omega), bt_gd, Int.toNat_natCast]
    refine Ev.step (fun k => ?_) (own_loop hloc count hcount d (j + 1) (by omega) (by omega))
    simp only [fuglemanlaw19_ImageApart.l3]
    rw [if_pos (by omega), if_pos (by omega), if_pos (by omega), hb, hbt]
    simp only [Option.bind_some]
    rw [if_pos trivial, w64 (by omega) (by omega)]
    rfl
theorem tot_le : ∀ (d i : Nat), i + d ≤ l.length → tot l m i d ≤ 64 * d
  | 0, i, _ => Nat.zero_le _
  | d + 1, i, h => by
    have := tot_le d (i + 1) (by omega)
    have h2 := (apart_at hA i (by omega) (by omega)).2.2
    show szn l m i + tot l m (i + 1) d ≤ _
    omega
theorem tot_snoc : ∀ (d i : Nat), tot l m i (d + 1) = tot l m i d + szn l m (i + d)
  | 0, i => by simp [tot]
  | d + 1, i => by
    show szn l m i + tot l m (i + 1) (d + 1) = szn l m i + tot l m (i + 1) d + _
    rw [tot_snoc d (i + 1), show i + 1 + d = i + (d + 1) by omega]
    omega
theorem values_loop (hloc : loc ≤ 64) : ∀ (d i : Nat), l.length - i = d → i ≤ l.length →
    Ev (fun k => fuglemanlaw19_ImageApart.l2 k (loc : Int) own (valsL l m l.length) ⟨(area l m loc own).toArray⟩ ((tot l m 0 i : Nat) : Int) l (l.length : Int) i) true
  | 0, i, hd, hi => by
    obtain rfl : i = l.length := by omega
    refine Ev.step (fun k => ?_) (own_loop l m loc own hA hl hloc _ rfl _ 0 rfl (Nat.zero_le _))
    simp only [fuglemanlaw19_ImageApart.l2]
    rw [if_neg (by omega)]
    rfl
  | d + 1, i, hd, hi => by
    have ih := values_loop hloc d (i + 1) (by omega) (by omega)
    rw [tot_snoc l m loc hA hl i 0, Nat.zero_add] at ih
    have htl := tot_le l m loc hA hl i 0 (by omega)
    have h2 := (apart_at hA i (by omega) (by omega)).2.2
    refine Ev.step (fun k => ?_) ih
    simp only [fuglemanlaw19_ImageApart.l2]
    rw [if_pos (by omega), if_pos (by omega), if_pos (by omega), if_pos (by rw [vals_len]; omega), rd_sp, rd_vals l m _ i (by omega), val_size, value_back l m loc own hA hl i (by omega)]
    simp only [Option.bind_some]
    rw [if_pos trivial, w64 (x := (i : Int) + 1) (by omega) (by omega), w64 (by omega) (by omega)]
    rfl
/-- The loop that fills a value. -/
theorem fill_loop (hm : m.length ≤ 1000) (i : Nat) (hi : i < l.length) {r : Bool} (hnext : Ev (fun k => fuglemanlaw19_ImageApart.l0 k (loc : Int) l m own (valsL l m (i + 1)) l (l.length : Int) ((i + 1 : Nat) : Int)) r) :
    ∀ (d j : Nat), szn l m i - j = d → j ≤ szn l m i →
    Ev (fun k => fuglemanlaw19_ImageApart.l1 k (loc : Int) l m own (valsL l m i) i ((List.range (szn l m i)).map fun q => if q < j then ((byt i q).toNat : Int) else 0) l (l.length : Int) i (szn l m i : Int) j) r
  | 0, j, hd, hj => by
    obtain rfl : j = szn l m i := by omega
    refine Ev.step (fun k => ?_) hnext
    simp only [fuglemanlaw19_ImageApart.l1]
    have hlist : ((List.range (szn l m i)).map fun q => if q < szn l m i then ((byt i q).toNat : Int) else 0) = ((List.range (szn l m i)).map (byt i)).map fun x => (x.toNat : Int) := by
      rw [List.map_map]
      refine List.map_congr_left fun q hq => ?_
      rw [if_pos (by simpa using hq)]
      rfl
    rw [if_neg (by omega), if_pos (by rw [vals_len]; omega), hlist, strOfNums_bytes, w64 (by omega) (by omega)]
    have : valsL l m (i + 1) = valsL l m i ++ [val l m i] := by simp [valsL, List.range_succ]
    rw [this]
    rfl
  | d + 1, j, hd, hj => by
    have ih := fill_loop hm i hi hnext d (j + 1) (by omega) (by omega)
    have h2 := (apart_at hA i (by omega) (by omega)).2.2
    refine Ev.step (fun k => ?_) ih
    simp only [fuglemanlaw19_ImageApart.l1]
    rw [if_pos (by omega), if_pos (by omega), if_pos (by simp; omega), w64 (x := (i : Int) * 16) (by omega) (by omega), w64 (x := 1 + (i : Int) * 16) (by omega) (by omega), Int.tmod_eq_emod_of_nonneg (by omega), w64 (x := 1 + (i : Int) * 16 + (j : Int) % 16) (by omega) (by omega), w64 (x := (j : Int) + 1) (by omega) (by omega), Int.toNat_natCast]
    have hlist : ((List.range (szn l m i)).map fun q => if q < j then ((byt i q).toNat : Int) else 0).set j ((1 + (i : Int) * 16 + (j : Int) % 16) % 256) = (List.range (szn l m i)).map fun q => if q < j + 1 then ((byt i q).toNat : Int) else 0 := by
      refine List.ext_getElem (by simp) fun q hq1 hq2 => ?_
      simp only [List.getElem_set, List.getElem_map, List.getElem_range]
      by_cases e : j = q
      · subst e
        rw [if_pos rfl, if_pos (by omega), byt_nat i j (by omega)]
        omega
      · rw [if_neg e]
        by_cases e2 : q < j
        · rw [if_pos e2, if_pos (by omega)]
        · rw [if_neg e2, if_neg (by omega)]
    rw [hlist]
    rfl
theorem main_loop (hm : m.length ≤ 1000) (hloc : loc ≤ 64) (hown : own.size ≤ 100) : ∀ (d i : Nat), l.length - i = d → i ≤ l.length →
    Ev (fun k => fuglemanlaw19_ImageApart.l0 k (loc : Int) l m own (valsL l m i) l (l.length : Int) i) true
  | 0, i, hd, hi => by
    obtain rfl : i = l.length := by omega
    have hp := inputs_prog (loc : Int) own l (valsL l m l.length) (by omega) (by rw [vals_len]; omega) (fun k hk => by
      rw [vals_len] at hk
      rw [rd_vals l m _ k hk, val_size]
      have := (apart_at hA k (by omega) (by omega)).2.2
      omega) (fun k hk => by
      have := apart_at hA k (by omega) (by omega)
      omega) hown
    refine Ev.step (fun k => ?_) (values_loop l m loc own hA hl hloc _ 0 rfl (Nat.zero_le _))
    simp only [fuglemanlaw19_ImageApart.l0]
    rw [if_neg (by omega), hp]
    rfl
  | d + 1, i, hd, hi => by
    have ih := main_loop hm hloc hown d (i + 1) (by omega) (by omega)
    obtain ⟨h0, h1, h2⟩ := apart_at hA i (by omega) (by omega)
    have hf := fill_loop l m loc own hA hl hm i (by omega) ih _ 0 rfl (Nat.zero_le _)
    have hz : ((List.range (szn l m i)).map fun q => if q < 0 then ((byt i q).toNat : Int) else 0) = List.replicate (szn l m i) 0 := by
      refine List.ext_getElem (by simp) fun q hq1 hq2 => ?_
      simp
    rw [hz] at hf
    refine Ev.step (f := fun k => (fuglemanref16_Find.f k m (sp l i).f0).bind fun b => if 0 ≤ b.2.2.1 then (if (b.2.2.1 : Int).toNat ≤ 281474976710656 then ((some (List.replicate (b.2.2.1 : Int).toNat 0 : List Int)).bind fun y165 => (fuglemanlaw19_ImageApart.l1 k (loc : Int) l m own (valsL l m i) i y165 l (l.length : Int) i (y165.length : Int) 0)) else (none)) else (none)) (fun k => ?_) (Ev.bind (rfind_ev m hm _) ?_)
    · simp only [fuglemanlaw19_ImageApart.l0]
      rw [if_pos (by omega), if_pos (by omega), if_pos (by omega), rd_sp]
    · simp only [h1]
      simp only [if_pos (show (0 : Int) ≤ (szn l m i : Int) by omega), Int.toNat_natCast, if_pos (show szn l m i ≤ 281474976710656 by omega), Option.bind_some, List.length_replicate]
      exact hf
end
theorem apart_law (lo : Int) (l : List S32) (m : List S34) : Ev (fun k => fuglemanlaw19_ImageApart.f k lo l m) true := by
  unfold fuglemanlaw19_ImageApart.f
  refine Ev.bind awake_ev ?_
  simp only [if_true]
  have ht : Ev (fun k => fuglemanlaw19_ImageApart.j0 k lo l m true) true := by
    refine Ev.step (f := fun _ => some _) (fun k => ?_) (Ev.now _)
    simp only [fuglemanlaw19_ImageApart.j0]
    rfl
  by_cases h1 : (l.length : Int) > 15
  · simp only [if_pos h1]; exact ht
  · simp only [if_neg h1]
    by_cases h2 : (m.length : Int) > 16
    · rw [decide_eq_true h2]; exact ht
    · rw [decide_eq_false h2]
      obtain ⟨r, k1, _, k3⟩ := lay_ev lo l (by omega) m (by omega)
      refine Ev.step (f := fun k => (image_Lay.f k lo l m).bind fun b => if b.1 = 0 then (fuglemanlaw19_ImageApart.l0 k lo l m (⟨#[102, 117, 103, 108, 101, 109, 97, 110, 44, 32, 97, 32, 115, 116, 97, 116, 105, 111, 110, 32, 111, 102, 32, 97, 32, 114, 105, 110, 103]⟩ : ByteArray) ([] : List ByteArray) l (l.length : Int) 0) else some true) (fun k => ?_) (Ev.bind k1 ?_)
      · simp only [fuglemanlaw19_ImageApart.j0]
        rfl
      · by_cases h0 : r.1 = 0
        · simp only [if_pos h0]
          obtain ⟨loc, rfl, hloc, hA⟩ := k3 h0
          exact main_loop l m loc _ hA (by omega) (by omega) hloc (by decide) l.length 0 (by omega) (by omega)
        · simp only [if_neg h0]
          exact Ev.now _
end Go.Proofs.Ytojcflaghicdiaa.Plain

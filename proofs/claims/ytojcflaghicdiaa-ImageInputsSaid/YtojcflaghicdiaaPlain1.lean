/- Plain facts on where blocks may lie: the program's and the reference's answers are the same. No condition but those that each states. -/
import Derived.Test.YtojcflaghicdiaaOwnx6
import Derived.Test.YtojcflaghicdiaaOwnx7
namespace Go.Proofs.Ytojcflaghicdiaa.Plain
open Go.RowKit Go.Proofs.Ytojcflaghicdiaa.Own Go.Proofs.YtojcflaghicdiaaW.PrintWords Go.Proofs.YtojcflaghicdiaaW.PrintLast Go.Proofs.YtojcflaghicdiaaW.PrintMore

theorem w64 {x : Int} (h0 : -9223372036854775808 ≤ x) (h1 : x ≤ 9223372036854775807) : wrap64 x = x := by unfold wrap64; omega
theorem awake_ev : Ev fuglemanlaw19_awake.f true := Ev.of fuglemanlaw19_awake.mono (k := 10) (by decide +kernel)
def el (l : List S34) (j : Nat) : S34 := l.getD j z34
theorem rd_el (l : List S34) (j : Nat) : rd_T34 l (j : Int) = el l j := by simp [rd_T34, el]

theorem plc_at : ∀ (l : List S34) (id s : Int), (plc l id s = -1 ∧ ∀ j, j < l.length → (el l j).f0 ≠ id) ∨ ∃ j : Nat, j < l.length ∧ plc l id s = s + j ∧ (el l j).f0 = id ∧ ∀ j', j' < j → (el l j').f0 ≠ id
  | [], id, s => .inl ⟨rfl, by simp⟩
  | b :: l, id, s => by
    unfold plc
    by_cases h : b.f0 = id
    · rw [if_pos h]
      exact .inr ⟨0, by simp, by simp, by simpa [el] using h, by omega⟩
    · rw [if_neg h]
      rcases plc_at l id (s + 1) with ⟨h1, h2⟩ | ⟨j, h1, h2, h3, h4⟩
      · refine .inl ⟨h1, fun j hj => ?_⟩
        cases j with
        | zero => simpa [el] using h
        | succ j => have := h2 j (by simpa using hj); simpa [el] using this
      · refine .inr ⟨j + 1, by simpa using h1, by rw [h2]; omega, by simpa [el] using h3, fun j' hj' => ?_⟩
        cases j' with
        | zero => simpa [el] using h
        | succ j' => have := h4 j' (by omega); simpa [el] using this

/-- What both find. -/
def fnd (l : List S34) (id : Int) : Int × Int × Int × Bool × Bool :=
  if plc l id 0 < 0 then (0, 0, 0, false, false) else ((rd_T34 l (plc l id 0)).f0, (rd_T34 l (plc l id 0)).f1, (rd_T34 l (plc l id 0)).f2, (rd_T34 l (plc l id 0)).f3, true)
theorem find_eq (l : List S34) (hl : l.length ≤ 1000) (id : Int) : blocks_Find.f l id = some (fnd l id) := by
  unfold blocks_Find.f blocks_place.f fnd
  rw [if_pos (by omega)]
  simp only [Option.bind_some]
  by_cases h : plc l id 0 < 0
  · rw [if_pos h, if_pos h]
  · rw [if_neg h, if_neg h, if_pos (by omega), if_pos]
    rcases plc_at l id 0 with ⟨h1, _⟩ | ⟨j, h1, h2, _⟩
    · omega
    · rw [h2]; omega
theorem rfind_loop (l : List S34) (hl : l.length ≤ 1000) (id : Int) : ∀ (d i : Nat), l.length - i = d → i ≤ l.length → (∀ j, j < i → (el l j).f0 ≠ id) → Ev (fun k => fuglemanref16_Find.l0 k l id i) (fnd l id)
  | 0, i, hd, hi, hno => by
    refine Ev.step (f := fun _ => some _) (fun k => ?_) (Ev.now _)
    simp only [fuglemanref16_Find.l0]
    rw [if_neg (by omega)]
    unfold fnd
    rw [if_pos]
    rcases plc_at l id 0 with ⟨h1, _⟩ | ⟨j, h1, h2, h3, _⟩
    · omega
    · exact absurd h3 (hno j (by omega))
  | d + 1, i, hd, hi, hno => by
    by_cases he : (el l i).f0 = id
    · refine Ev.step (f := fun _ => some _) (fun k => ?_) (Ev.now _)
      simp only [fuglemanref16_Find.l0]
      rw [if_pos (by omega), if_pos (by omega), rd_el, if_pos he]
      have hp : plc l id 0 = i := by
        rcases plc_at l id 0 with ⟨_, h2⟩ | ⟨j, h1, h2, h3, h4⟩
        · exact absurd he (h2 i (by omega))
        · have a1 : ¬ j < i := fun h => hno j h h3
          have a2 : ¬ i < j := fun h => h4 i h he
          omega
      unfold fnd
      rw [hp, if_neg (by omega), rd_el]
    · refine Ev.step (fun k => ?_) (rfind_loop l hl id d (i + 1) (by omega) (by omega) (fun j hj => ?_))
      · simp only [fuglemanref16_Find.l0]
        rw [if_pos (by omega), if_pos (by omega), rd_el, if_neg he, w64 (by omega) (by omega)]
        rfl
      · by_cases e : j = i
        · rw [e]; exact he
        · exact hno j (by omega)
theorem rfind_ev (l : List S34) (hl : l.length ≤ 1000) (id : Int) : Ev (fun k => fuglemanref16_Find.f k l id) (fnd l id) :=
  rfind_loop l hl id l.length 0 (by omega) (by omega) (by omega)


/-! #### masks -/
def mk (at_ n : Nat) : Nat := (2 ^ n - 1) * 2 ^ at_
theorem mk_bit (at_ n j : Nat) : (mk at_ n).testBit j = decide (at_ ≤ j ∧ j < at_ + n) := by
  unfold mk
  rw [Nat.testBit_mul_two_pow, Nat.testBit_two_pow_sub_one]
  by_cases h : at_ ≤ j
  · simp [h]; omega
  · simp [h]
theorem mk_lt (at_ n : Nat) (h : at_ + n ≤ 64) : mk at_ n < 2 ^ 64 := by
  refine Nat.lt_pow_two_of_testBit _ fun i hi => ?_
  rw [mk_bit]
  exact decide_eq_false (by omega)
theorem wrap_u64 (x : Nat) (h : x < 2 ^ 64) : IntKind.u64.wrap (x : Int) = (x : Int) := by
  have : IntKind.u64.wrap (x : Int) = (x : Int) % 18446744073709551616 := by simp [IntKind.wrap, IntKind.bits, IntKind.signed]
  rw [this]
  omega
theorem shl_u64 (x n : Nat) (h : x * 2 ^ n < 2 ^ 64) (hn : n ≤ 64) : shl .u64 (x : Int) (n : Int) = ((x * 2 ^ n : Nat) : Int) := by
  unfold shl
  have hb : IntKind.u64.bits = 64 := rfl
  rw [hb, Int.toNat_natCast, Nat.min_eq_left hn, ← wrap_u64 _ h]
  congr 1
  first | done | simp
theorem mask_eq (at_ n : Nat) (h : at_ + n ≤ 64) : image_mask.f (at_ : Int) (n : Int) = some (mk at_ n : Int) := by
  unfold image_mask.f
  by_cases h1 : (n : Int) ≥ 64
  · have e1 : n = 64 := by omega
    have e2 : at_ = 0 := by omega
    subst e1; subst e2
    decide +kernel
  · rw [if_neg h1, if_pos (by omega), if_pos (by omega)]
    have hp : 2 ^ n < 2 ^ 64 := Nat.pow_lt_pow_right (by decide) (by omega)
    have hpos : 0 < 2 ^ n := Nat.two_pow_pos n
    have s1 : shl .u64 1 (n : Int) = ((2 ^ n : Nat) : Int) := by
      have := shl_u64 1 n (by rw [Nat.one_mul]; exact hp) (by omega)
      rw [Nat.one_mul] at this
      exact this
    rw [s1]
    have s2 : (((2 ^ n : Nat) : Int) - 1) = ((2 ^ n - 1 : Nat) : Int) := by omega
    rw [s2, wrap_u64 _ (by omega), shl_u64 _ _ (mk_lt at_ n h) (by omega)]
    rfl
theorem bits_u64 (a b : Nat) (ha : a < 2 ^ 64) (hb : b < 2 ^ 64) : Go.bits .and .u64 (a : Int) (b : Int) = ((a &&& b : Nat) : Int) ∧ Go.bits .or .u64 (a : Int) (b : Int) = ((a ||| b : Nat) : Int) :=
  bits_nat .u64 64 (by decide) (fun n h0 h1 => by
    obtain ⟨m, rfl⟩ := Int.eq_ofNat_of_zero_le h0
    exact wrap_u64 m (by exact_mod_cast h1)) a b ha hb

/-! #### spots -/
def sp (l : List S32) (j : Nat) : S32 := l.getD j z32
theorem rd_sp (l : List S32) (j : Nat) : rd_T32 l (j : Int) = sp l j := by simp [rd_T32, sp]
theorem pls_at : ∀ (l : List S32) (id s : Int), 0 ≤ s → (pls l id s = -1 ∧ ∀ j, j < l.length → (sp l j).f0 ≠ id) ∨ (0 ≤ pls l id s ∧ ∃ j : Nat, j < l.length ∧ (sp l j).f0 = id)
  | [], id, s, _ => .inl ⟨rfl, by simp⟩
  | b :: l, id, s, hs => by
    unfold pls
    by_cases h : b.f0 = id
    · rw [if_pos h]
      exact .inr ⟨hs, 0, by simp, by simpa [sp] using h⟩
    · rw [if_neg h]
      rcases pls_at l id (s + 1) (by omega) with ⟨h1, h2⟩ | ⟨h1, j, h2, h3⟩
      · refine .inl ⟨h1, fun j hj => ?_⟩
        cases j with
        | zero => simpa [sp] using h
        | succ j => have := h2 j (by simpa using hj); simpa [sp] using this
      · exact .inr ⟨h1, j + 1, by simpa using h2, by simpa [sp] using h3⟩
theorem pls_take (l : List S32) (i : Nat) (hi : i ≤ l.length) (id : Int) : (0 ≤ pls (l.take i) id 0) ↔ ∃ j, j < i ∧ (sp l j).f0 = id := by
  have hlen : (l.take i).length = i := by rw [List.length_take]; omega
  have hsp : ∀ j, j < i → sp (l.take i) j = sp l j := fun j hj => by simp [sp, List.getD, List.getElem?_take_of_lt hj]
  rcases pls_at (l.take i) id 0 (by omega) with ⟨h1, h2⟩ | ⟨h1, j, h2, h3⟩
  · refine ⟨fun h => by omega, fun ⟨j, hj, he⟩ => absurd he (by rw [← hsp j hj]; exact h2 j (by omega))⟩
  · exact ⟨fun _ => ⟨j, by omega, by rw [← hsp j (by omega)]; exact h3⟩, fun _ => h1⟩

/-- What stands at a spot: the found block's size, and the error. -/
theorem spot_eq (l : List S32) (hl : l.length ≤ 1000) (m : List S34) (hm : m.length ≤ 1000) (i : Nat) (hi : i < l.length) :
    image_spot.f l (i : Int) m = some ((fnd m (sp l i).f0).1, (fnd m (sp l i).f0).2.1, (fnd m (sp l i).f0).2.2.1, (fnd m (sp l i).f0).2.2.2.1, image_spot.e l (i : Int) (fnd m (sp l i).f0)) := by
  unfold image_spot.f
  rw [if_pos (by omega), rd_sp, find_eq m hm]
  rfl

/-- The reference's inner loop: was this block met before? -/
theorem met_loop (l : List S32) (hl : l.length ≤ 1000) (m : List S34) (ov : Bool) (us : List Bool) (i : Nat) (hi : i < l.length) (a b c : Int) (h : Bool) {r : Int × Int}
    (hnext : (∀ j, j < i → (sp l j).f0 ≠ (sp l i).f0) → Ev (fun k => fuglemanref19_Lay.l2 k l m ov us i i a b c h) r) (hhit : (∃ j, j < i ∧ (sp l j).f0 = (sp l i).f0) → r = (14, (i : Int))) :
    ∀ (d j : Nat), i - j = d → j ≤ i → (∀ j', j' < j → (sp l j').f0 ≠ (sp l i).f0) → Ev (fun k => fuglemanref19_Lay.l2 k l m ov us i j a b c h) r
  | 0, j, hd, hj, hno => by
    obtain rfl : j = i := by omega
    exact hnext hno
  | d + 1, j, hd, hj, hno => by
    by_cases he : (sp l j).f0 = (sp l i).f0
    · rw [hhit ⟨j, by omega, he⟩]
      refine Ev.step (f := fun _ => some _) (fun k => ?_) (Ev.now _)
      simp only [fuglemanref19_Lay.l2]
      rw [if_pos (by omega), if_pos (by omega), if_pos (by omega), if_pos (by omega), if_pos (by omega), rd_sp, rd_sp, if_pos he]
    · refine Ev.step (fun k => ?_) (met_loop l hl m ov us i hi a b c h hnext hhit d (j + 1) (by omega) (by omega) (fun j' hj' => ?_))
      · simp only [fuglemanref19_Lay.l2]
        rw [if_pos (by omega), if_pos (by omega), if_pos (by omega), if_pos (by omega), if_pos (by omega), rd_sp, rd_sp, if_neg he, w64 (by omega) (by omega)]
        rfl
      · by_cases e : j' = j
        · rw [e]; exact he
        · exact hno j' (by omega)
/-- The used bytes, as a number's bits. -/
def Bits (us : List Bool) (U : Nat) : Prop := us.length = 64 ∧ U < 2 ^ 64 ∧ ∀ j, j < 64 → us.getD j false = U.testBit j
theorem bits_set (us : List Bool) (j : Nat) (hj : j < us.length) (b : Bool) (i : Nat) : (us.set j b).getD i false = if i = j then b else us.getD i false := by
  simp only [List.getD, List.getElem?_set]
  by_cases h : j = i
  · subst h; simp [hj]
  · simp [h, show i ≠ j from fun e => h e.symm]
/-- The reference's marking loop. -/
theorem mark_loop (l : List S32) (m : List S34) (ov : Bool) (i at_ n : Nat) (hat : at_ + n ≤ 64) (a b : Int) (h : Bool) (us : List Bool) (U : Nat) (hb : Bits us U) {r : Int × Int}
    (hhit : ov = true → (∃ j, at_ ≤ j ∧ j < at_ + n ∧ U.testBit j = true) → r = (15, (i : Int)))
    (hnext : (ov = true → ∀ j, at_ ≤ j → j < at_ + n → U.testBit j = false) → ∀ us', Bits us' (U ||| mk at_ n) → Ev (fun k => fuglemanref19_Lay.l1 k l m ov us' (wrap64 ((i : Int) + 1))) r) :
    ∀ (d j : Nat) (us' : List Bool), at_ + n - j = d → at_ ≤ j → j ≤ at_ + n → us'.length = 64 → (∀ q, q < 64 → us'.getD q false = (U.testBit q || decide (at_ ≤ q ∧ q < j))) → (ov = true → ∀ q, at_ ≤ q → q < j → U.testBit q = false) →
      Ev (fun k => fuglemanref19_Lay.l3 k l m ov us' i at_ j a b (n : Int) h) r
  | 0, j, us', hd, hj1, hj2, hl, hq, hf => by
    obtain rfl : j = at_ + n := by omega
    refine Ev.step (fun k => ?_) (hnext hf us' ⟨hl, Nat.or_lt_two_pow hb.2.1 (mk_lt _ _ hat), fun q hq1 => by rw [hq q hq1, Nat.testBit_or, mk_bit]⟩)
    simp only [fuglemanref19_Lay.l3]
    rw [w64 (x := (at_ : Int) + n) (by omega) (by omega), if_neg (by omega)]
  | d + 1, j, us', hd, hj1, hj2, hl, hq, hf => by
    have hqj := hq j (by omega)
    have hq' : ∀ q, q < 64 → (us'.set j true).getD q false = (U.testBit q || decide (at_ ≤ q ∧ q < j + 1)) := fun q hq1 => by
      rw [bits_set us' j (by omega)]
      by_cases e : q = j
      · subst e; simp; omega
      · rw [if_neg e, hq q hq1]
        congr 1
        rw [decide_eq_decide]
        omega
    cases hov : ov with
    | true =>
      by_cases hu : U.testBit j = true
      · rw [hhit hov ⟨j, hj1, by omega, hu⟩]
        refine Ev.step (f := fun _ => some _) (fun k => ?_) (Ev.now _)
        simp only [fuglemanref19_Lay.l3]
        rw [w64 (x := (at_ : Int) + n) (by omega) (by omega), if_pos (by omega), if_pos trivial, if_pos (by omega), if_pos (by omega), if_pos]
        unfold rdOf
        rw [Int.toNat_natCast, hqj, hu]
        rfl
      · have hu' : U.testBit j = false := by simpa using hu
        have ih := mark_loop l m ov i at_ n hat a b h us U hb hhit hnext d (j + 1) (us'.set j true) (by omega) (by omega) (by omega) (by rw [List.length_set]; exact hl) hq' (fun e q h1 h2 => by
          by_cases e2 : q = j
          · rw [e2]; exact hu'
          · exact hf e q h1 (by omega))
        rw [hov] at ih
        refine Ev.step (fun k => ?_) ih
        simp only [fuglemanref19_Lay.l3]
        rw [w64 (x := (at_ : Int) + n) (by omega) (by omega), if_pos (by omega), if_pos trivial, if_pos (by omega), if_pos (by omega), if_neg, w64 (by omega) (by omega), Int.toNat_natCast]
        · rfl
        · unfold rdOf
          rw [Int.toNat_natCast, hqj, hu']
          simp
    | false =>
      have ih := mark_loop l m ov i at_ n hat a b h us U hb hhit hnext d (j + 1) (us'.set j true) (by omega) (by omega) (by omega) (by rw [List.length_set]; exact hl) hq' (fun e => by rw [hov] at e; cases e)
      rw [hov] at ih
      refine Ev.step (fun k => ?_) ih
      simp only [fuglemanref19_Lay.l3]
      rw [w64 (x := (at_ : Int) + n) (by omega) (by omega), if_pos (by omega), if_neg (by simp), if_pos (by omega), if_pos (by omega), w64 (by omega) (by omega), Int.toNat_natCast]
      rfl
theorem and_mk (U at_ n : Nat) : (U &&& mk at_ n = 0) ↔ ∀ j, at_ ≤ j → j < at_ + n → U.testBit j = false := by
  constructor
  · intro h j h1 h2
    have : (U &&& mk at_ n).testBit j = false := by rw [h]; exact Nat.zero_testBit j
    rw [Nat.testBit_and, mk_bit, decide_eq_true ⟨h1, h2⟩] at this
    simpa using this
  · intro h
    refine Nat.eq_of_testBit_eq fun j => ?_
    rw [Nat.testBit_and, mk_bit, Nat.zero_testBit]
    by_cases hj : at_ ≤ j ∧ j < at_ + n
    · rw [h j hj.1 hj.2]; rfl
    · rw [decide_eq_false hj]; simp
/-- From spot i on, d spots stand where nothing of U stands, and apart from each other. -/
def Apart (l : List S32) (m : List S34) : Nat → Nat → Nat → Prop
  | 0, _, _ => True
  | d + 1, i, U => ∃ at_ n : Nat, (sp l i).f1 = at_ ∧ (fnd m (sp l i).f0).2.2.1 = n ∧ at_ + n ≤ 64 ∧ U &&& mk at_ n = 0 ∧ Apart l m d (i + 1) (U ||| mk at_ n)
/-- From a spot on both come to one answer. -/
theorem lay_loop (l : List S32) (hl : l.length ≤ 1000) (m : List S34) (hm : m.length ≤ 1000) (ov : Bool) : ∀ (d i : Nat) (U : Nat) (us : List Bool), l.length - i = d → i ≤ l.length → Bits us U →
    ∃ r, Ev (fun k => image_lay.l0 k (U : Int) l m ov l (l.length : Int) i) r ∧ Ev (fun k => fuglemanref19_Lay.l1 k l m ov us i) r ∧ (ov = true → r.1 = 0 → Apart l m d i U)
  | 0, i, U, us, hd, hi, hb => by
    refine ⟨(0, 0), Ev.step (f := fun _ => some _) (fun k => ?_) (Ev.now _), Ev.step (f := fun _ => some _) (fun k => ?_) (Ev.now _), fun _ _ => trivial⟩
    · simp only [image_lay.l0]; rw [if_neg (by omega)]
    · simp only [fuglemanref19_Lay.l1]; rw [if_neg (by omega)]
  | d + 1, i, U, us, hd, hi, hb => by
    let f := fnd m (sp l i).f0
    have hlay : ∀ k, image_lay.l0 (k + 1) (U : Int) l m ov l (l.length : Int) i = (if image_spot.e l (i : Int) f = 0 then ((image_mask.f (sp l i).f1 f.2.2.1).bind fun t112 => (if ov = true then (if (Go.bits .and .u64 (U : Int) t112) = 0 then (image_lay.l0 k (Go.bits .or .u64 (U : Int) t112) l m ov l (l.length : Int) ((i + 1 : Nat) : Int)) else (some (15, (i : Int)))) else (image_lay.l0 k (Go.bits .or .u64 (U : Int) t112) l m ov l (l.length : Int) ((i + 1 : Nat) : Int)))) else (some (image_spot.e l (i : Int) f, (i : Int)))) := fun k => by
      simp only [image_lay.l0]
      rw [if_pos (by omega), if_pos (by omega), if_pos (by omega), spot_eq l hl m hm i (by omega)]
      simp only [Option.bind_some]
      rw [rd_sp, w64 (by omega) (by omega)]
      rfl
    have href : Ev (fun k => fuglemanref16_Find.f k m (sp l i).f0) f := rfind_ev m hm _
    have hbad : ∀ e : Int, e ≠ 0 → image_spot.e l (i : Int) f = e → Ev (fun k => image_lay.l0 k (U : Int) l m ov l (l.length : Int) i) (e, (i : Int)) := fun e h0 he => by
      refine Ev.step (f := fun _ => some _) (fun k => ?_) (Ev.now _)
      rw [hlay k, he, if_neg h0]
    have hR : ∀ r, Ev (fun k => if f.2.2.2.2 = true then fuglemanref19_Lay.l2 k l m ov us i 0 f.1 f.2.1 f.2.2.1 f.2.2.2.1 else some (5, (i : Int))) r → Ev (fun k => fuglemanref19_Lay.l1 k l m ov us i) r := fun r h => by
      refine Ev.step (f := fun k => (fuglemanref16_Find.f k m (sp l i).f0).bind fun b => if b.2.2.2.2 = true then fuglemanref19_Lay.l2 k l m ov us i 0 b.1 b.2.1 b.2.2.1 b.2.2.2.1 else some (5, (i : Int))) (fun k => ?_) (Ev.bind href h)
      simp only [fuglemanref19_Lay.l1]
      rw [if_pos (by omega), if_pos (by omega), rd_sp]
    cases hok : f.2.2.2.2 with
    | false =>
      refine ⟨(5, (i : Int)), hbad 5 (by decide) (by unfold image_spot.e; rw [if_pos hok]), hR _ ?_, fun _ h => absurd h (by simp)⟩
      rw [hok]
      exact Ev.now _
    | true =>
      have hR2 : ∀ r, ((∀ j, j < i → (sp l j).f0 ≠ (sp l i).f0) → Ev (fun k => fuglemanref19_Lay.l2 k l m ov us i i f.1 f.2.1 f.2.2.1 f.2.2.2.1) r) → ((∃ j, j < i ∧ (sp l j).f0 = (sp l i).f0) → r = (14, (i : Int))) → Ev (fun k => fuglemanref19_Lay.l1 k l m ov us i) r := fun r h1 h2 => by
        refine hR r ?_
        rw [hok]
        exact met_loop l hl m ov us i (by omega) _ _ _ _ h1 h2 i 0 (by omega) (by omega) (fun j' hj' => by omega)
      have he0 : image_spot.e l (i : Int) f = if 0 ≤ pls (l.take i) (sp l i).f0 0 then 14 else if (sp l i).f1 < 0 ∨ (sp l i).f1 > 64 ∨ f.2.2.1 < 0 ∨ f.2.2.1 > 64 - (sp l i).f1 then 2 else 0 := by
        unfold image_spot.e
        rw [if_neg (by rw [hok]; simp), rd_sp, Int.toNat_natCast]
      by_cases hdup : ∃ j, j < i ∧ (sp l j).f0 = (sp l i).f0
      · refine ⟨(14, (i : Int)), hbad 14 (by decide) ?_, hR2 _ (fun hno => ?_) (fun _ => rfl), fun _ h => absurd h (by simp)⟩
        · rw [he0, if_pos ((pls_take l i hi _).mpr hdup)]
        · obtain ⟨j, h1, h2⟩ := hdup
          exact absurd h2 (hno j h1)
      · rw [if_neg (fun h => hdup ((pls_take l i hi _).mp h))] at he0
        -- the range
        have hstep : ∀ (x : Bool) r, (∀ k, fuglemanref19_Lay.l2 (k + 1) l m ov us i i f.1 f.2.1 f.2.2.1 f.2.2.2.1 = fuglemanref19_Lay.j4 k l m ov us i (sp l i).f1 x f.1 f.2.1 f.2.2.1 f.2.2.2.1) →
            Ev (fun k => fuglemanref19_Lay.j4 k l m ov us i (sp l i).f1 x f.1 f.2.1 f.2.2.1 f.2.2.2.1) r → Ev (fun k => fuglemanref19_Lay.l1 k l m ov us i) r := fun x r h1 h2 =>
          hR2 r (fun _ => Ev.step h1 h2) (fun h => absurd h hdup)
        have unf : ∀ k, fuglemanref19_Lay.l2 (k + 1) l m ov us i i f.1 f.2.1 f.2.2.1 f.2.2.2.1 = (if (sp l i).f1 < 0 then (fuglemanref19_Lay.j4 k l m ov us i (sp l i).f1 true f.1 f.2.1 f.2.2.1 f.2.2.2.1) else (if (sp l i).f1 > 64 then (fuglemanref19_Lay.j4 k l m ov us i (sp l i).f1 true f.1 f.2.1 f.2.2.1 f.2.2.2.1) else (if f.2.2.1 < 0 then (fuglemanref19_Lay.j4 k l m ov us i (sp l i).f1 true f.1 f.2.1 f.2.2.1 f.2.2.2.1) else (fuglemanref19_Lay.j4 k l m ov us i (sp l i).f1 (decide (f.2.2.1 > (wrap64 (64 - (sp l i).f1)))) f.1 f.2.1 f.2.2.1 f.2.2.2.1)))) := fun k => by
          simp only [fuglemanref19_Lay.l2]
          rw [if_neg (by omega), if_pos (by omega), if_pos (by omega), rd_sp]
        have hj4t : Ev (fun k => fuglemanref19_Lay.j4 k l m ov us i (sp l i).f1 true f.1 f.2.1 f.2.2.1 f.2.2.2.1) (2, (i : Int)) := by
          refine Ev.step (f := fun _ => some _) (fun k => ?_) (Ev.now _)
          simp only [fuglemanref19_Lay.j4]
          rfl
        by_cases g1 : (sp l i).f1 < 0
        · exact ⟨(2, (i : Int)), hbad 2 (by decide) (by rw [he0, if_pos (.inl g1)]), hstep true _ (fun k => by rw [unf k, if_pos g1]) hj4t, fun _ h => absurd h (by simp)⟩
        by_cases g2 : (sp l i).f1 > 64
        · exact ⟨(2, (i : Int)), hbad 2 (by decide) (by rw [he0, if_pos (.inr (.inl g2))]), hstep true _ (fun k => by rw [unf k, if_neg g1, if_pos g2]) hj4t, fun _ h => absurd h (by simp)⟩
        by_cases g3 : f.2.2.1 < 0
        · exact ⟨(2, (i : Int)), hbad 2 (by decide) (by rw [he0, if_pos (.inr (.inr (.inl g3)))]), hstep true _ (fun k => by rw [unf k, if_neg g1, if_neg g2, if_pos g3]) hj4t, fun _ h => absurd h (by simp)⟩
        have hw : wrap64 (64 - (sp l i).f1) = 64 - (sp l i).f1 := w64 (by omega) (by omega)
        by_cases g4 : f.2.2.1 > 64 - (sp l i).f1
        · refine ⟨(2, (i : Int)), hbad 2 (by decide) (by rw [he0, if_pos (.inr (.inr (.inr g4)))]), hstep (decide (f.2.2.1 > (wrap64 (64 - (sp l i).f1)))) _ (fun k => by rw [unf k, if_neg g1, if_neg g2, if_neg g3]) ?_, fun _ h => absurd h (by simp)⟩
          rw [hw, decide_eq_true g4]
          exact hj4t
        · -- it may stand there
          rw [if_neg (by rintro (h | h | h | h) <;> contradiction)] at he0
          obtain ⟨at_, hat⟩ := Int.eq_ofNat_of_zero_le (show 0 ≤ (sp l i).f1 by omega)
          obtain ⟨n, hn⟩ := Int.eq_ofNat_of_zero_le (show 0 ≤ f.2.2.1 by omega)
          have hfit : at_ + n ≤ 64 := by omega
          have hmk := mask_eq at_ n hfit
          have hbu := bits_u64 U (mk at_ n) hb.2.1 (mk_lt at_ n hfit)
          have hlay2 : ∀ k, image_lay.l0 (k + 1) (U : Int) l m ov l (l.length : Int) i = (if ov = true then (if (U &&& mk at_ n) = 0 then (image_lay.l0 k ((U ||| mk at_ n : Nat) : Int) l m ov l (l.length : Int) ((i + 1 : Nat) : Int)) else (some (15, (i : Int)))) else (image_lay.l0 k ((U ||| mk at_ n : Nat) : Int) l m ov l (l.length : Int) ((i + 1 : Nat) : Int))) := fun k => by
            rw [hlay k, if_pos he0, hat, hn, hmk]
            simp only [Option.bind_some]
            rw [hbu.1, hbu.2]
            cases ov <;> simp
          have hj4f : ∀ r, Ev (fun k => fuglemanref19_Lay.l3 k l m ov us i at_ at_ f.1 f.2.1 (n : Int) f.2.2.2.1) r → Ev (fun k => fuglemanref19_Lay.l1 k l m ov us i) r := fun r h => by
            refine hstep (decide (f.2.2.1 > (wrap64 (64 - (sp l i).f1)))) r (fun k => by rw [unf k, if_neg g1, if_neg g2, if_neg g3]) ?_
            rw [hw, decide_eq_false g4]
            refine Ev.step (fun k => ?_) h
            simp only [fuglemanref19_Lay.j4]
            rw [hat, hn]
            rfl
          have hinit : ∀ q, q < 64 → us.getD q false = (U.testBit q || decide (at_ ≤ q ∧ q < at_)) := fun q hq => by
            rw [hb.2.2 q hq, decide_eq_false (by omega)]; simp
          by_cases hover : ov = true ∧ ¬ (U &&& mk at_ n) = 0
          · refine ⟨(15, (i : Int)), Ev.step (f := fun _ => some _) (fun k => ?_) (Ev.now _), hj4f _ ?_, fun _ h => absurd h (by simp)⟩
            · rw [hlay2 k, if_pos hover.1, if_neg hover.2]
            · refine mark_loop l m ov i at_ n hfit _ _ _ us U hb (fun _ _ => rfl) (fun hno => ?_) _ at_ us rfl (Nat.le_refl _) (by omega) hb.1 hinit (fun _ q h1 h2 => by omega)
              exact absurd ((and_mk U at_ n).mpr (hno hover.1)) hover.2
          · have hor : Bits (us := (List.range 64).map fun q => (U ||| mk at_ n).testBit q) (U ||| mk at_ n) := ⟨by simp, Nat.or_lt_two_pow hb.2.1 (mk_lt _ _ hfit), fun j hj => by simp [List.getD, hj]⟩
            obtain ⟨r, h1, h2, h3⟩ := lay_loop l hl m hm ov d (i + 1) (U ||| mk at_ n) _ (by omega) (by omega) hor
            refine ⟨r, Ev.step (fun k => ?_) h1, hj4f _ ?_, fun e h => ⟨at_, n, hat, hn, hfit, by
              by_cases h0 : (U &&& mk at_ n) = 0
              · exact h0
              · exact absurd ⟨e, h0⟩ hover, h3 e h⟩⟩
            · rw [hlay2 k]
              cases hov : ov with
              | true =>
                have : (U &&& mk at_ n) = 0 := by
                  by_cases h : (U &&& mk at_ n) = 0
                  · exact h
                  · exact absurd ⟨hov, h⟩ hover
                rw [if_pos rfl, if_pos this]
              | false => rfl
            · refine mark_loop l m ov i at_ n hfit _ _ _ us U hb (fun e hh => ?_) (fun _ us' hb' => ?_) _ at_ us rfl (Nat.le_refl _) (by omega) hb.1 hinit (fun _ q h1 h2 => by omega)
              · exfalso
                obtain ⟨j, k1, k2, k3⟩ := hh
                refine hover ⟨e, fun h0 => ?_⟩
                have := (and_mk U at_ n).mp h0 j k1 k2
                rw [k3] at this
                cases this
              · have hus : us' = (List.range 64).map fun q => (U ||| mk at_ n).testBit q := by
                  refine List.ext_getElem (by rw [hb'.1]; simp) fun j hj1 hj2 => ?_
                  have := hb'.2.2 j (by rw [hb'.1] at hj1; exact hj1)
                  simp [List.getD, hj1] at this
                  rw [this]
                  simp
                rw [hus, w64 (by omega) (by omega)]
                exact h2

/-- The reference's first loop: the own bytes are used. -/
theorem init_loop (l : List S32) (m : List S34) (loc : Nat) (hloc : loc ≤ 64) {r : Int × Int} (ov : Bool) (hx : Ev (fun k => fuglemanref19_Lay.l1 k l m ov ((List.range 64).map fun q => ov && decide (q < loc)) 0) r) (lo : Int) (hlo : ov = true → lo = loc) :
    ∀ (d j : Nat) (us : List Bool), 64 - j = d → j ≤ 64 → us.length = 64 → (∀ q, q < j → us.getD q false = (ov && decide (q < loc))) → Ev (fun k => fuglemanref19_Lay.l0 k lo l m ov us j) r
  | 0, j, us, hd, hj, hl, hq => by
    obtain rfl : j = 64 := by omega
    have hus : us = (List.range 64).map fun q => ov && decide (q < loc) := by
      refine List.ext_getElem (by rw [hl]; simp) fun j hj1 hj2 => ?_
      have := hq j (by omega)
      simp [List.getD, hj1] at this
      rw [this]
      simp
    refine Ev.step (fun k => ?_) (hus ▸ hx)
    simp only [fuglemanref19_Lay.l0]
    rw [if_neg (by omega), hus]
  | d + 1, j, us, hd, hj, hl, hq => by
    have ih := init_loop l m loc hloc ov hx lo hlo d (j + 1) (us.set j (ov && decide (j < loc))) (by omega) (by omega) (by rw [List.length_set]; exact hl) (fun q h => by
      rw [bits_set us j (by omega)]
      by_cases e : q = j
      · rw [if_pos e, e]
      · rw [if_neg e]; exact hq q (by omega))
    refine Ev.step (fun k => ?_) ih
    simp only [fuglemanref19_Lay.l0]
    rw [if_pos (by omega)]
    cases hov : ov with
    | true =>
      rw [if_pos rfl, if_pos (by omega), if_pos (by omega), w64 (by omega) (by omega), Int.toNat_natCast, hlo hov]
      congr 2
      simp
    | false =>
      rw [if_neg (by simp), if_pos (by omega), if_pos (by omega), w64 (by omega) (by omega), Int.toNat_natCast]
      congr 2
theorem lay_ev (lo : Int) (l : List S32) (hl : l.length ≤ 1000) (m : List S34) (hm : m.length ≤ 1000) : ∃ r, Ev (fun k => image_Lay.f k lo l m) r ∧ Ev (fun k => fuglemanref19_Lay.f k lo l m true) r ∧ (r.1 = 0 → ∃ loc : Nat, lo = loc ∧ loc ≤ 64 ∧ Apart l m l.length 0 (mk 0 loc)) := by
  have hbad : ∀ lo, Ev (fun k => image_Lay.j0 k lo l m true) (2, -1) := fun lo => by
    refine Ev.step (f := fun _ => some _) (fun k => ?_) (Ev.now _)
    simp only [image_Lay.j0]
    rfl
  have hbad2 : ∀ lo, Ev (fun k => fuglemanref19_Lay.j0 k lo l m true true) (2, -1) := fun lo => by
    refine Ev.step (f := fun _ => some _) (fun k => ?_) (Ev.now _)
    simp only [fuglemanref19_Lay.j0]
    rfl
  unfold image_Lay.f fuglemanref19_Lay.f
  simp only [if_true]
  by_cases h1 : lo < 0
  · simp only [if_pos h1]
    exact ⟨_, hbad lo, hbad2 lo, fun h => absurd h (by simp)⟩
  · simp only [if_neg h1]
    by_cases h2 : lo > 64
    · rw [decide_eq_true h2]
      exact ⟨_, hbad lo, hbad2 lo, fun h => absurd h (by simp)⟩
    · rw [decide_eq_false h2]
      obtain ⟨loc, rfl⟩ := Int.eq_ofNat_of_zero_le (show 0 ≤ lo by omega)
      have hmk := mask_eq 0 loc (by omega)
      have hbits : Bits ((List.range 64).map fun q => true && decide (q < loc)) (mk 0 loc) := ⟨by simp, mk_lt 0 loc (by omega), fun j hj => by
        rw [mk_bit]; simp [List.getD, hj]⟩
      obtain ⟨r, k1, k2, k3⟩ := lay_loop l hl m hm true l.length 0 (mk 0 loc) _ (by omega) (by omega) hbits
      refine ⟨r, Ev.step (f := fun k => (image_lay.f k (mk 0 loc : Int) l m true).bind fun b => some (b.1, b.2)) (fun k => ?_) (Ev.bind (g := fun k => image_lay.f k (mk 0 loc : Int) l m true) (f := fun _ b => some (b.1, b.2)) k1 (Ev.now _)), ?_, fun h => ⟨loc, rfl, by omega, k3 rfl h⟩⟩
      · simp only [image_Lay.j0]
        rw [if_neg (by simp), show (0 : Int) = ((0 : Nat) : Int) from rfl, hmk]
        rfl
      · refine Ev.step (fun k => ?_) (init_loop l m loc (by omega) true k2 loc (fun _ => rfl) 64 0 (List.replicate 64 false) (by omega) (by omega) (by simp) (fun q h => by omega))
        simp only [fuglemanref19_Lay.j0]
        rw [if_neg (by simp), if_pos (by omega)]
        rfl
theorem reach_ev (lo : Int) (l : List S32) (hl : l.length ≤ 1000) (m : List S34) (hm : m.length ≤ 1000) : ∃ r, Ev (fun k => image_Reach.f k l m) r ∧ Ev (fun k => fuglemanref19_Lay.f k lo l m false) r := by
  have hbits : Bits ((List.range 64).map fun q => false && decide (q < 0)) 0 := ⟨by simp, by decide, fun j hj => by simp [List.getD, hj]⟩
  obtain ⟨r, k1, k2, _⟩ := lay_loop l hl m hm false l.length 0 0 _ (by omega) (by omega) hbits
  refine ⟨r, ?_, ?_⟩
  · unfold image_Reach.f
    exact Ev.bind (g := fun k => image_lay.f k 0 l m false) (f := fun _ b => some (b.1, b.2)) k1 (Ev.now _)
  · unfold fuglemanref19_Lay.f
    refine Ev.congr (f := fun k => fuglemanref19_Lay.j0 k lo l m false false) (fun k => by rw [if_neg (by simp)]) ?_
    refine Ev.step (fun k => ?_) (init_loop l m 0 (by omega) false k2 lo (fun h => by cases h) 64 0 (List.replicate 64 false) (by omega) (by omega) (by simp) (fun q h => by omega))
    simp only [fuglemanref19_Lay.j0]
    rw [if_neg (by simp), if_pos (by omega)]
    rfl
theorem lays_law (lo : Int) (l : List S32) (m : List S34) : Ev (fun k => fuglemanlaw19_ImageLays.f k lo l m) true := by
  unfold fuglemanlaw19_ImageLays.f
  refine Ev.bind awake_ev ?_
  simp only [if_true]
  have ht : Ev (fun k => fuglemanlaw19_ImageLays.j0 k lo l m true) true := by
    refine Ev.step (f := fun _ => some _) (fun k => ?_) (Ev.now _)
    simp only [fuglemanlaw19_ImageLays.j0]
    rfl
  by_cases h1 : (l.length : Int) > 20
  · simp only [if_pos h1]; exact ht
  · simp only [if_neg h1]
    by_cases h2 : (m.length : Int) > 20
    · rw [decide_eq_true h2]; exact ht
    · rw [decide_eq_false h2]
      obtain ⟨r, k1, k2, _⟩ := lay_ev lo l (by omega) m (by omega)
      obtain ⟨q, k3, k4⟩ := reach_ev lo l (by omega) m (by omega)
      refine Ev.step (f := fun k => (image_Lay.f k lo l m).bind fun a => (fuglemanref19_Lay.f k lo l m true).bind fun b => (image_Reach.f k l m).bind fun c => (fuglemanref19_Lay.f k lo l m false).bind fun d => if a.1 = b.1 then (if a.2 = b.2 then (if c.1 = d.1 then some (c.2 == d.2) else some false) else some false) else some false) (fun k => ?_) ?_
      · simp only [fuglemanlaw19_ImageLays.j0]
        rfl
      · refine Ev.bind k1 (Ev.bind k2 (Ev.bind k3 (Ev.bind k4 ?_)))
        simp
        exact Ev.now _
end Go.Proofs.Ytojcflaghicdiaa.Plain

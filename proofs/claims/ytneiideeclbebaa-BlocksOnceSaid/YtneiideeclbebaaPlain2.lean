/- Plain facts on directories of blocks: the checks, the finding and the listing of the program and of the reference come to the same, and in a right directory each block is found by its ID. No condition but those that each states. -/
import Derived.Test.YtneiideeclbebaaOwnx4
import Derived.Test.YtneiideeclbebaaOwnx5
import Derived.Test.YtneiideeclbebaaOwnx6
import Derived.Test.YtneiideeclbebaaPlain1
namespace Go.Proofs.Ytneiideeclbebaa.Plain
open Go.RowKit Go.Proofs.Ytneiideeclbebaa.Own Go.Proofs.YtneiideeclbebaaW.PrintWords Go.Proofs.YtneiideeclbebaaW.PrintLast Go.Proofs.YtneiideeclbebaaW.PrintMore

def el (l : List S36) (j : Nat) : S36 := l.getD j z36
theorem rd_el (l : List S36) (j : Nat) : rd_T36 l (j : Int) = el l j := by simp [rd_T36, el]

theorem plc_at : ∀ (l : List S36) (id s : Int), (plc l id s = -1 ∧ ∀ j, j < l.length → (el l j).f0 ≠ id) ∨ ∃ j : Nat, j < l.length ∧ plc l id s = s + j ∧ (el l j).f0 = id ∧ ∀ j', j' < j → (el l j').f0 ≠ id
  | [], id, s => .inl ⟨rfl, by simp⟩
  | b :: l, id, s => by
    unfold plc
    by_cases h : b.f0 = id
    · rw [if_pos h]
      exact .inr ⟨0, by simp, by simp, by simpa [el] using h, by omega⟩
    · rw [if_neg h]
      rcases plc_at l id (s + 1) with ⟨h1, h2⟩ | ⟨j, h1, h2, h3, h4⟩
      · refine .inl ⟨h1, fun j hj => ?_⟩
        cases j with
        | zero => simpa [el] using h
        | succ j => have := h2 j (by simpa using hj); simpa [el] using this
      · refine .inr ⟨j + 1, by simpa using h1, by rw [h2]; omega, by simpa [el] using h3, fun j' hj' => ?_⟩
        cases j' with
        | zero => simpa [el] using h
        | succ j' => have := h4 j' (by omega); simpa [el] using this

def okb (b : S36) : Bool := decide (0 ≤ b.f0 ∧ b.f0 < 16 ∧ 0 ≤ b.f1 ∧ b.f1 < 32 ∧ 1 ≤ b.f2 ∧ b.f2 ≤ 64)
theorem okb_true {b : S36} : okb b = true ↔ (0 ≤ b.f0 ∧ b.f0 < 16 ∧ 0 ≤ b.f1 ∧ b.f1 < 32 ∧ 1 ≤ b.f2 ∧ b.f2 ≤ 64) := by unfold okb; simp
def chk (l : List S36) : Nat → Nat → Int × Int
  | 0, _ => (0, 0)
  | d + 1, i => if okb (el l i) = true then (if plc l (el l i).f0 0 < i then (14, (i : Int)) else chk l d (i + 1)) else (3, (i : Int))

theorem right_eq (b : S36) : blocks_right.f b.f0 b.f1 b.f2 b.f3 = some (okb b) := by
  unfold blocks_right.f
  by_cases h1 : b.f0 ≥ 0
  · rw [if_pos h1]
    by_cases h2 : b.f0 < 16
    · rw [if_pos h2]
      by_cases h3 : b.f1 ≥ 0
      · rw [if_pos h3]
        by_cases h4 : b.f1 < 32
        · rw [if_pos h4]
          by_cases h5 : 1 ≤ b.f2 ∧ b.f2 ≤ 64
          · rw [parts_in _ h5.1 h5.2]
            simp only [Option.bind_some]
            congr 1
            rw [okb_true.mpr ⟨h1, h2, h3, h4, h5⟩]
            exact decide_eq_true (by omega)
          · rw [parts_out _ (by omega)]
            simp only [Option.bind_some]
            congr 1
            unfold okb
            rw [decide_eq_false (by omega), decide_eq_false (by omega)]
        · rw [if_neg h4]; unfold okb; rw [decide_eq_false (by omega)]
      · rw [if_neg h3]; unfold okb; rw [decide_eq_false (by omega)]
    · rw [if_neg h2]; unfold okb; rw [decide_eq_false (by omega)]
  · rw [if_neg h1]; unfold okb; rw [decide_eq_false (by omega)]

theorem check_loop (l : List S36) (hl : l.length ≤ 1000) : ∀ (d i : Nat), l.length - i = d → i ≤ l.length → Ev (fun k => blocks_Check.l0 k l l (l.length : Int) i) (chk l d i)
  | 0, i, hd, hi => by
    refine Ev.step (f := fun _ => some _) (fun k => ?_) (Ev.now _)
    simp only [blocks_Check.l0]
    rw [if_neg (by omega)]
    rfl
  | d + 1, i, hd, hi => by
    have hstep : ∀ k, blocks_Check.l0 (k + 1) l l (l.length : Int) i = if okb (el l i) = true then (if plc l (el l i).f0 0 < i then some (14, (i : Int)) else blocks_Check.l0 k l l (l.length : Int) ((i + 1 : Nat) : Int)) else some (3, (i : Int)) := by
      intro k
      simp only [blocks_Check.l0]
      rw [if_pos (by omega), if_pos (by omega), if_pos (by omega), rd_el, right_eq]
      simp only [Option.bind_some, blocks_place.f]
      rw [if_pos (show l.length ≤ 1000000 by omega), w64 (by omega) (by omega)]
      simp only [Option.bind_some]
      rfl
    by_cases h1 : okb (el l i) = true
    · by_cases h2 : plc l (el l i).f0 0 < i
      · refine Ev.step (f := fun _ => some _) (fun k => ?_) (Ev.now _)
        rw [hstep k, if_pos h1, if_pos h2]
        simp only [chk]
        rw [if_pos h1, if_pos h2]
      · have ih := check_loop l hl d (i + 1) (by omega) (by omega)
        simp only [chk]
        rw [if_pos h1, if_neg h2]
        exact Ev.step (fun k => by rw [hstep k, if_pos h1, if_neg h2]) ih
    · refine Ev.step (f := fun _ => some _) (fun k => ?_) (Ev.now _)
      rw [hstep k, if_neg h1]
      simp only [chk]
      rw [if_neg h1]
theorem check_ev (l : List S36) (hl : l.length ≤ 1000) : Ev (fun k => blocks_Check.f k l) (if l.length > 16 then (2, 16) else chk l l.length 0) := by
  unfold blocks_Check.f
  by_cases h : l.length > 16
  · simp only [if_pos h, if_pos (show (l.length : Int) > 16 by omega)]
    exact Ev.now _
  · simp only [if_neg h, if_neg (show ¬ (l.length : Int) > 16 by omega)]
    exact check_loop l hl l.length 0 (by omega) (by omega)

/-- The reference's inner loop: is there an earlier block of this ID? -/
theorem ref_inner (l : List S36) (hl : l.length ≤ 1000) (i : Nat) (hi : i < l.length) (a b c : Int) (h : Bool) {r : Int × Int} (hnext : (∀ j, j < i → (el l j).f0 ≠ a) → Ev (fun k => fuglemanref16_Check.l0 k l ((i + 1 : Nat) : Int)) r) (hhit : (∃ j, j < i ∧ (el l j).f0 = a) → r = (14, (i : Int))) :
    ∀ (d j : Nat), i - j = d → j ≤ i → (∀ j', j' < j → (el l j').f0 ≠ a) → Ev (fun k => fuglemanref16_Check.l1 k l i j a b c h) r
  | 0, j, hd, hj, hno => by
    refine Ev.step (fun k => ?_) (hnext (fun j' hj' => hno j' (by omega)))
    simp only [fuglemanref16_Check.l1]
    rw [if_neg (by omega), w64 (by omega) (by omega)]
    rfl
  | d + 1, j, hd, hj, hno => by
    by_cases he : (el l j).f0 = a
    · rw [hhit ⟨j, by omega, he⟩]
      refine Ev.step (f := fun _ => some _) (fun k => ?_) (Ev.now _)
      simp only [fuglemanref16_Check.l1]
      rw [if_pos (by omega), if_pos (by omega), if_pos (by omega), rd_el, if_pos he]
    · refine Ev.step (fun k => ?_) (ref_inner l hl i hi a b c h hnext hhit d (j + 1) (by omega) (by omega) (fun j' hj' => ?_))
      · simp only [fuglemanref16_Check.l1]
        rw [if_pos (by omega), if_pos (by omega), if_pos (by omega), rd_el, if_neg he, w64 (by omega) (by omega)]
        rfl
      · by_cases e : j' = j
        · rw [e]; exact he
        · exact hno j' (by omega)
theorem ref_j1 (l : List S36) (i : Nat) (a b c : Int) (h x : Bool) {r : Int × Int} (h1 : x = true → r = (3, (i : Int))) (h2 : x = false → Ev (fun k => fuglemanref16_Check.l1 k l i 0 a b c h) r) : Ev (fun k => fuglemanref16_Check.j1 k l i x a b c h) r := by
  cases x with
  | true =>
    rw [h1 rfl]
    refine Ev.step (f := fun _ => some _) (fun k => ?_) (Ev.now _)
    simp only [fuglemanref16_Check.j1]
    rfl
  | false =>
    refine Ev.step (fun k => ?_) (h2 rfl)
    simp only [fuglemanref16_Check.j1]
    rfl
theorem ref_loop (l : List S36) (hl : l.length ≤ 1000) : ∀ (d i : Nat), l.length - i = d → i ≤ l.length → Ev (fun k => fuglemanref16_Check.l0 k l i) (chk l d i)
  | 0, i, hd, hi => by
    refine Ev.step (f := fun _ => some _) (fun k => ?_) (Ev.now _)
    simp only [fuglemanref16_Check.l0]
    rw [if_neg (by omega)]
    rfl
  | d + 1, i, hd, hi => by
    have ih := ref_loop l hl d (i + 1) (by omega) (by omega)
    let b := el l i
    have key : ∀ x : Bool, (x = true → okb b = false) → (x = false → okb b = true) → Ev (fun k => fuglemanref16_Check.j1 k l i x b.f0 b.f1 b.f2 b.f3) (chk l (d + 1) i) := by
      intro x hx1 hx2
      refine ref_j1 l i _ _ _ _ x (fun h => ?_) (fun h => ?_)
      · simp only [chk]
        rw [if_neg (by rw [hx1 h]; simp)]
      · have ho := hx2 h
        have hp := plc_at l b.f0 0
        refine ref_inner l hl i (by omega) _ _ _ _ (fun hno => ?_) (fun hhit => ?_) i 0 (by omega) (by omega) (fun j' hj' => by omega)
        · simp only [chk]
          rw [if_pos ho, if_neg]
          · exact ih
          · rcases hp with ⟨_, hp⟩ | ⟨j, h1, h2, h3, h4⟩
            · exact absurd rfl (hp i (by omega))
            · rw [h2]
              intro hlt
              exact hno j (by omega) h3
        · simp only [chk]
          rw [if_pos ho, if_pos]
          obtain ⟨j, hj, hej⟩ := hhit
          rcases hp with ⟨_, hp⟩ | ⟨j0, h1, h2, h3, h4⟩
          · exact absurd rfl (hp i (by omega))
          · rw [h2]
            have : ¬ j < j0 := fun hh => h4 j hh hej
            omega
    have hok : okb b = true ↔ _ := okb_true (b := b)
    have step : ∀ (x : Bool), (∀ k, fuglemanref16_Check.l0 (k + 1) l i = fuglemanref16_Check.j1 k l i x b.f0 b.f1 b.f2 b.f3) → (x = true → okb b = false) → (x = false → okb b = true) → Ev (fun k => fuglemanref16_Check.l0 k l i) (chk l (d + 1) i) :=
      fun x h h1 h2 => Ev.step h (key x h1 h2)
    have unf : ∀ k, fuglemanref16_Check.l0 (k + 1) l i = (if b.f0 < 0 then fuglemanref16_Check.j1 k l i true b.f0 b.f1 b.f2 b.f3 else if b.f0 > 15 then fuglemanref16_Check.j1 k l i true b.f0 b.f1 b.f2 b.f3 else if b.f1 < 0 then fuglemanref16_Check.j1 k l i true b.f0 b.f1 b.f2 b.f3 else if b.f1 > 31 then fuglemanref16_Check.j1 k l i true b.f0 b.f1 b.f2 b.f3 else if b.f2 < 1 then fuglemanref16_Check.j1 k l i true b.f0 b.f1 b.f2 b.f3 else fuglemanref16_Check.j1 k l i (decide (b.f2 > 64)) b.f0 b.f1 b.f2 b.f3) := by
      intro k
      simp only [fuglemanref16_Check.l0]
      rw [if_pos (by omega), if_pos (by omega), rd_el]
    have no : ¬ (0 ≤ b.f0 ∧ b.f0 < 16 ∧ 0 ≤ b.f1 ∧ b.f1 < 32 ∧ 1 ≤ b.f2 ∧ b.f2 ≤ 64) → okb b = false := fun h => by
      cases hb : okb b with
      | true => exact absurd (hok.mp hb) h
      | false => rfl
    by_cases h1 : b.f0 < 0
    · exact step true (fun k => by rw [unf k, if_pos h1]) (fun _ => no (by omega)) (fun h => by cases h)
    by_cases h2 : b.f0 > 15
    · exact step true (fun k => by rw [unf k, if_neg h1, if_pos h2]) (fun _ => no (by omega)) (fun h => by cases h)
    by_cases h3 : b.f1 < 0
    · exact step true (fun k => by rw [unf k, if_neg h1, if_neg h2, if_pos h3]) (fun _ => no (by omega)) (fun h => by cases h)
    by_cases h4 : b.f1 > 31
    · exact step true (fun k => by rw [unf k, if_neg h1, if_neg h2, if_neg h3, if_pos h4]) (fun _ => no (by omega)) (fun h => by cases h)
    by_cases h5 : b.f2 < 1
    · exact step true (fun k => by rw [unf k, if_neg h1, if_neg h2, if_neg h3, if_neg h4, if_pos h5]) (fun _ => no (by omega)) (fun h => by cases h)
    · exact step (decide (b.f2 > 64)) (fun k => by rw [unf k, if_neg h1, if_neg h2, if_neg h3, if_neg h4, if_neg h5]) (fun h => no (by have := of_decide_eq_true h; omega)) (fun h => hok.mpr (by have := of_decide_eq_false h; omega))
theorem ref_ev (l : List S36) (hl : l.length ≤ 1000) : Ev (fun k => fuglemanref16_Check.f k l) (if l.length > 16 then (2, 16) else chk l l.length 0) := by
  unfold fuglemanref16_Check.f
  by_cases h : l.length > 16
  · simp only [if_pos h, if_pos (show (l.length : Int) > 16 by omega)]
    exact Ev.now _
  · simp only [if_neg h, if_neg (show ¬ (l.length : Int) > 16 by omega)]
    exact ref_loop l hl l.length 0 (by omega) (by omega)

/-- What both find. -/
def fnd (l : List S36) (id : Int) : Int × Int × Int × Bool × Bool :=
  if plc l id 0 < 0 then (0, 0, 0, false, false) else ((rd_T36 l (plc l id 0)).f0, (rd_T36 l (plc l id 0)).f1, (rd_T36 l (plc l id 0)).f2, (rd_T36 l (plc l id 0)).f3, true)
theorem find_eq (l : List S36) (hl : l.length ≤ 1000) (id : Int) : blocks_Find.f l id = some (fnd l id) := by
  unfold blocks_Find.f blocks_place.f fnd
  rw [if_pos (by omega)]
  simp only [Option.bind_some]
  by_cases h : plc l id 0 < 0
  · rw [if_pos h, if_pos h]
  · rw [if_neg h, if_neg h, if_pos (by omega), if_pos]
    rcases plc_at l id 0 with ⟨h1, _⟩ | ⟨j, h1, h2, _⟩
    · omega
    · rw [h2]; omega
theorem rfind_loop (l : List S36) (hl : l.length ≤ 1000) (id : Int) : ∀ (d i : Nat), l.length - i = d → i ≤ l.length → (∀ j, j < i → (el l j).f0 ≠ id) → Ev (fun k => fuglemanref16_Find.l0 k l id i) (fnd l id)
  | 0, i, hd, hi, hno => by
    refine Ev.step (f := fun _ => some _) (fun k => ?_) (Ev.now _)
    simp only [fuglemanref16_Find.l0]
    rw [if_neg (by omega)]
    unfold fnd
    rw [if_pos]
    rcases plc_at l id 0 with ⟨h1, _⟩ | ⟨j, h1, h2, h3, _⟩
    · omega
    · exact absurd h3 (hno j (by omega))
  | d + 1, i, hd, hi, hno => by
    by_cases he : (el l i).f0 = id
    · refine Ev.step (f := fun _ => some _) (fun k => ?_) (Ev.now _)
      simp only [fuglemanref16_Find.l0]
      rw [if_pos (by omega), if_pos (by omega), rd_el, if_pos he]
      have hp : plc l id 0 = i := by
        rcases plc_at l id 0 with ⟨_, h2⟩ | ⟨j, h1, h2, h3, h4⟩
        · exact absurd he (h2 i (by omega))
        · have a1 : ¬ j < i := fun h => hno j h h3
          have a2 : ¬ i < j := fun h => h4 i h he
          omega
      unfold fnd
      rw [hp, if_neg (by omega), rd_el]
    · refine Ev.step (fun k => ?_) (rfind_loop l hl id d (i + 1) (by omega) (by omega) (fun j hj => ?_))
      · simp only [fuglemanref16_Find.l0]
        rw [if_pos (by omega), if_pos (by omega), rd_el, if_neg he, w64 (by omega) (by omega)]
        rfl
      · by_cases e : j = i
        · rw [e]; exact he
        · exact hno j (by omega)
theorem rfind_ev (l : List S36) (hl : l.length ≤ 1000) (id : Int) : Ev (fun k => fuglemanref16_Find.f k l id) (fnd l id) :=
  rfind_loop l hl id l.length 0 (by omega) (by omega) (by omega)

def ofs (l : List S36) (a : Int) (i : Nat) : List Int := ((l.take i).filter (fun b => b.f1 == a)).map (fun b => b.f0)
theorem take_el (l : List S36) (i : Nat) (hi : i < l.length) : l.take (i + 1) = l.take i ++ [el l i] := by
  rw [List.take_succ_eq_append_getElem hi]; simp [el, List.getD, hi]
theorem ofs_yes (l : List S36) (a : Int) (i : Nat) (hi : i < l.length) (h : (el l i).f1 = a) : ofs l a (i + 1) = ofs l a i ++ [(el l i).f0] := by
  unfold ofs; rw [take_el l i hi]; simp [List.filter_append, h]
theorem ofs_no (l : List S36) (a : Int) (i : Nat) (hi : i < l.length) (h : (el l i).f1 ≠ a) : ofs l a (i + 1) = ofs l a i := by
  unfold ofs; rw [take_el l i hi]; simp [List.filter_append, h]
theorem ofs_len (l : List S36) (a : Int) (i : Nat) : (ofs l a i).length ≤ l.length := by
  unfold ofs; rw [List.length_map]; exact Nat.le_trans (List.length_filter_le _ _) (List.length_take_le' _ _)
theorem of_loop (l : List S36) (hl : l.length ≤ 1000) (a : Int) : ∀ (d i : Nat), l.length - i = d → i ≤ l.length → Ev (fun k => blocks_Of.l0 k a (ofs l a i) l (l.length : Int) i) (ofs l a l.length)
  | 0, i, hd, hi => by
    refine Ev.step (f := fun _ => some _) (fun k => ?_) (Ev.now _)
    simp only [blocks_Of.l0]
    rw [if_neg (by omega), show i = l.length by omega]
  | d + 1, i, hd, hi => by
    have ih := of_loop l hl a d (i + 1) (by omega) (by omega)
    have := ofs_len l a i
    refine Ev.step (fun k => ?_) ih
    simp only [blocks_Of.l0]
    rw [if_pos (by omega), if_pos (by omega), if_pos (by omega), rd_el, w64 (by omega) (by omega)]
    by_cases h : (el l i).f1 = a
    · rw [if_pos h, if_pos (by omega), ofs_yes l a i (by omega) h]; rfl
    · rw [if_neg h, ofs_no l a i (by omega) h]; rfl
theorem of_ev (l : List S36) (hl : l.length ≤ 1000) (a : Int) : Ev (fun k => blocks_Of.f k l a) (ofs l a l.length) := of_loop l hl a l.length 0 (by omega) (by omega)
theorem rof_loop (l : List S36) (hl : l.length ≤ 1000) (a : Int) : ∀ (d i : Nat), l.length - i = d → i ≤ l.length → Ev (fun k => fuglemanref16_Of.l0 k l a (ofs l a i) i) (ofs l a l.length)
  | 0, i, hd, hi => by
    refine Ev.step (f := fun _ => some _) (fun k => ?_) (Ev.now _)
    simp only [fuglemanref16_Of.l0]
    rw [if_neg (by omega), show i = l.length by omega]
  | d + 1, i, hd, hi => by
    have ih := rof_loop l hl a d (i + 1) (by omega) (by omega)
    have := ofs_len l a i
    refine Ev.step (fun k => ?_) ih
    simp only [fuglemanref16_Of.l0]
    rw [if_pos (by omega), if_pos (by omega), rd_el, w64 (by omega) (by omega)]
    by_cases h : (el l i).f1 = a
    · rw [if_pos h, if_pos (by omega), ofs_yes l a i (by omega) h]; rfl
    · rw [if_neg h, ofs_no l a i (by omega) h]; rfl
theorem rof_ev (l : List S36) (hl : l.length ≤ 1000) (a : Int) : Ev (fun k => fuglemanref16_Of.f k l a) (ofs l a l.length) := rof_loop l hl a l.length 0 (by omega) (by omega)

theorem same_loop (x : List Int) (hx : x.length ≤ 1000) : ∀ (d i : Nat), x.length - i = d → i ≤ x.length → Ev (fun k => fuglemanlaw16_same.l0 k x x (x.length : Int) i) true
  | 0, i, hd, hi => by
    refine Ev.step (f := fun _ => some _) (fun k => ?_) (Ev.now _)
    simp only [fuglemanlaw16_same.l0]
    rw [if_neg (by omega)]
  | d + 1, i, hd, hi => by
    refine Ev.step (fun k => ?_) (same_loop x hx d (i + 1) (by omega) (by omega))
    simp only [fuglemanlaw16_same.l0]
    rw [if_pos (by omega), if_pos (by omega), if_pos (by omega), if_pos (by omega), if_pos trivial, w64 (by omega) (by omega)]
    rfl
theorem same_ev (x : List Int) (hx : x.length ≤ 1000) : Ev (fun k => fuglemanlaw16_same.f k x x) true := by
  unfold fuglemanlaw16_same.f
  simp only [if_true]
  exact same_loop x hx x.length 0 (by omega) (by omega)

theorem lists_law (l : List S36) (id addr : Int) : Ev (fun k => fuglemanlaw16_BlocksLists.f k l id addr) true := by
  unfold fuglemanlaw16_BlocksLists.f
  refine Ev.bind awake_ev ?_
  simp only [if_true]
  by_cases h : (l.length : Int) > 40
  · simp only [if_pos h]
    exact Ev.now _
  · simp only [if_neg h]
    have hl : l.length ≤ 1000 := by omega
    refine Ev.bind (check_ev l hl) ?_
    refine Ev.bind (ref_ev l hl) ?_
    simp only [find_eq l hl, Option.bind_some]
    refine Ev.bind (rfind_ev l hl id) ?_
    simp only [beq_self_eq_true, Bool.and_self, if_true]
    refine Ev.bind (of_ev l hl addr) ?_
    refine Ev.bind (rof_ev l hl addr) ?_
    refine Ev.bind (same_ev _ (by have := ofs_len l addr l.length; omega)) ?_
    exact Ev.now _

theorem chk_bad (l : List S36) : ∀ (d i : Nat), i + d = l.length → (chk l d i).1 ≠ 0 → (chk l d i).2 < (l.length : Int)
  | 0, i, _, h => absurd rfl h
  | d + 1, i, hd, h => by
    unfold chk at h ⊢
    split at h
    · split at h
      · rename_i h1 h2
        rw [if_pos h1, if_pos h2]
        show (i : Int) < _
        omega
      · rename_i h1 h2
        rw [if_pos h1, if_neg h2]
        exact chk_bad l d (i + 1) (by omega) h
    · rename_i h1
      rw [if_neg h1]
      show (i : Int) < _
      omega
theorem chk_good (l : List S36) : ∀ (d i : Nat), i + d = l.length → (chk l d i).1 = 0 → ∀ j, i ≤ j → j < l.length → okb (el l j) = true ∧ (j : Int) ≤ plc l (el l j).f0 0
  | 0, i, hd, _, j, h1, h2 => by omega
  | d + 1, i, hd, h, j, h1, h2 => by
    unfold chk at h
    split at h
    · split at h
      · exact absurd h (by simp)
      · rename_i h3 h4
        by_cases e : j = i
        · rw [e]; exact ⟨h3, by omega⟩
        · exact chk_good l d (i + 1) (by omega) h j (by omega) h2
    · exact absurd h (by simp)

theorem ofs_mem {l : List S36} {a id : Int} (h : id ∈ ofs l a l.length) : ∃ j, j < l.length ∧ (el l j).f0 = id ∧ (el l j).f1 = a := by
  unfold ofs at h
  rw [List.take_length] at h
  obtain ⟨b, hb, rfl⟩ := List.mem_map.1 h
  obtain ⟨hb, ha⟩ := List.mem_filter.1 hb
  obtain ⟨j, hj, rfl⟩ := List.getElem_of_mem hb
  exact ⟨j, hj, by simp [el, List.getD, hj], by simpa [el, List.getD, hj] using ha⟩
theorem rd_in (x : List Int) (i : Nat) (hi : i < x.length) : rd x (i : Int) ∈ x := by
  unfold rd
  simp [List.getD, hi]
theorem once_inner (l : List S36) (hl : l.length ≤ 16) (hg : ∀ j, j < l.length → okb (el l j) = true ∧ (j : Int) ≤ plc l (el l j).f0 0) (a : Int) (ha0 : 0 ≤ a) (ha : a < 32) {r : Bool} :
    ∀ (d i : Nat) (n : Nat), (ofs l a l.length).length - i = d → i ≤ (ofs l a l.length).length → n + d ≤ 1000 → Ev (fun k => fuglemanlaw16_BlocksOnce.l0 k l ((n + d : Nat) : Int) (a + 1)) r →
      Ev (fun k => fuglemanlaw16_BlocksOnce.l1 k l (n : Int) a a (ofs l a l.length) ((ofs l a l.length).length : Int) i) r
  | 0, i, n, hd, hi, hn, h => by
    refine Ev.step (fun k => ?_) h
    simp only [fuglemanlaw16_BlocksOnce.l1]
    rw [if_neg (by omega), w64 (by omega) (by omega)]
    rfl
  | d + 1, i, n, hd, hi, hn, h => by
    have hlen := ofs_len l a l.length
    refine Ev.step (fun k => ?_) (once_inner l hl hg a ha0 ha d (i + 1) (n + 1) (by omega) (by omega) (by omega) (by rw [show n + 1 + d = n + (d + 1) by omega]; exact h))
    obtain ⟨j, hj, h0, h1⟩ := ofs_mem (rd_in (ofs l a l.length) i (by omega))
    have hp : plc l (rd (ofs l a l.length) i) 0 = j := by
      have hgj := (hg j hj).2
      rw [h0] at hgj
      rcases plc_at l (rd (ofs l a l.length) i) 0 with ⟨_, h2⟩ | ⟨j', h1', h2, h3, h4⟩
      · exact absurd h0 (h2 j hj)
      · have : ¬ j < j' := fun hh => h4 j hh h0
        omega
    simp only [fuglemanlaw16_BlocksOnce.l1]
    rw [if_pos (by omega), if_pos (by omega), if_pos (by omega), find_eq l (by omega)]
    have hf : fnd l (rd (ofs l a l.length) i) = ((el l j).f0, (el l j).f1, (el l j).f2, (el l j).f3, true) := by
      unfold fnd
      rw [hp, if_neg (by omega), rd_el]
    rw [hf]
    simp only [Option.bind_some]
    rw [if_pos trivial, if_pos h0, if_pos h1, w64 (x := (n : Int) + 1) (by omega) (by omega), w64 (x := (i : Int) + 1) (by omega) (by omega)]
    rfl
def cnt (l : List S36) (a : Int) : Nat := (l.filter (fun b => decide (b.f1 < a))).length
theorem cnt_succ (a : Int) : ∀ l : List S36, cnt l (a + 1) = cnt l a + (ofs l a l.length).length
  | [] => rfl
  | b :: l => by
    have ih := cnt_succ a l
    unfold cnt ofs at ih ⊢
    simp only [List.take_length, List.length_map] at ih ⊢
    by_cases h1 : b.f1 < a
    · rw [List.filter_cons_of_pos (by simp; omega), List.filter_cons_of_pos (by simpa using h1), List.filter_cons_of_neg (by simp; omega)]
      simp only [List.length_cons]; omega
    · by_cases h2 : b.f1 = a
      · rw [List.filter_cons_of_pos (by simp; omega), List.filter_cons_of_neg (by simpa using h1), List.filter_cons_of_pos (by simpa using h2)]
        simp only [List.length_cons]; omega
      · rw [List.filter_cons_of_neg (by simp; omega), List.filter_cons_of_neg (by simpa using h1), List.filter_cons_of_neg (by simpa using h2)]
        omega
theorem cnt_le (l : List S36) (a : Int) : cnt l a ≤ l.length := List.length_filter_le _ _
theorem once_loop (l : List S36) (hl : l.length ≤ 16) (hg : ∀ j, j < l.length → okb (el l j) = true ∧ (j : Int) ≤ plc l (el l j).f0 0) : ∀ (d a : Nat), a + d = 32 → Ev (fun k => fuglemanlaw16_BlocksOnce.l0 k l (cnt l a : Int) a) true
  | 0, a, hd => by
    refine Ev.step (f := fun _ => some _) (fun k => ?_) (Ev.now _)
    simp only [fuglemanlaw16_BlocksOnce.l0]
    rw [if_neg (by omega)]
    have : cnt l a = l.length := by
      unfold cnt
      rw [List.filter_eq_self.mpr]
      intro b hb
      obtain ⟨j, hj, rfl⟩ := List.getElem_of_mem hb
      have h := (okb_true.mp (hg j hj).1)
      have e : el l j = l[j] := by simp [el, List.getD, hj]
      rw [e] at h
      exact decide_eq_true (by omega)
    rw [this]
    simp
  | d + 1, a, hd => by
    have ih := once_loop l hl hg d (a + 1) (by omega)
    have hc := cnt_le l a
    have ho := ofs_len l a l.length
    have hin := once_inner l hl hg (a : Int) (by omega) (by omega) (ofs l a l.length).length 0 (cnt l a) (by omega) (by omega) (by omega) (r := true) (by
      have := cnt_succ (a : Int) l
      rw [← this]
      exact ih)
    refine Ev.step (f := fun k => (blocks_Of.f k l a).bind fun t184 => fuglemanlaw16_BlocksOnce.l1 k l (cnt l a) a a t184 (t184.length : Int) 0) (fun k => ?_) (Ev.bind (of_ev l (by omega) a) hin)
    simp only [fuglemanlaw16_BlocksOnce.l0]
    rw [if_pos (by omega)]
theorem once_law (l : List S36) : Ev (fun k => fuglemanlaw16_BlocksOnce.f k l) true := by
  unfold fuglemanlaw16_BlocksOnce.f
  refine Ev.bind awake_ev ?_
  simp only [if_true]
  by_cases h : (l.length : Int) > 16
  · simp only [if_pos h]
    exact Ev.now _
  · simp only [if_neg h]
    have hl : l.length ≤ 1000 := by omega
    have hc := check_ev l hl
    simp only [if_neg (show ¬ l.length > 16 by omega)] at hc
    refine Ev.bind hc ?_
    by_cases h0 : (chk l l.length 0).1 = 0
    · simp only [h0, if_true]
      have hg := chk_good l l.length 0 (by omega) h0
      have := once_loop l (by omega) (fun j hj => hg j (by omega) hj) 32 0 (by omega)
      have e : cnt l ((0 : Nat) : Int) = 0 := by
        unfold cnt
        rw [List.length_eq_zero_iff, List.filter_eq_nil_iff]
        intro b hb
        obtain ⟨j, hj, rfl⟩ := List.getElem_of_mem hb
        have h := (okb_true.mp (hg j (by omega) hj).1)
        have e : el l j = l[j] := by simp [el, List.getD, hj]
        rw [e] at h
        simp; omega
      rw [e] at this
      exact this
    · simp only [if_neg h0]
      have := chk_bad l l.length 0 (by omega) h0
      rw [decide_eq_true this]
      exact Ev.now _
end Go.Proofs.Ytneiideeclbebaa.Plain

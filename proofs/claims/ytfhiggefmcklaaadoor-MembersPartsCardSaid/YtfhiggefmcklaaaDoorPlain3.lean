/- Plain facts on sets of addresses: which members, how many, and the set's text. No condition but those that each states. -/
import Derived.Test.YtfhiggefmcklaaaDoorPlain2
import Derived.Test.YtfhiggefmcklaaaDoorOwnx
namespace Go.Proofs.YtfhiggefmcklaaaDoor.Plain
open Go.RowKit Go.Proofs.YtfhiggefmcklaaaDoor.Own Go.Proofs.YtfhiggefmcklaaaDoorW.PrintWords Go.Proofs.YtfhiggefmcklaaaDoorW.PrintLast Go.Proofs.YtfhiggefmcklaaaDoorW.PrintMore

theorem pre_same (s i : Nat) : ∀ (d m : Nat), m - i = d → i ≤ m → (∀ j, i ≤ j → j < m → s.testBit j = false) → pre s i = pre s m
  | 0, m, hd, hi, _ => by rw [show i = m by omega]
  | d + 1, m, hd, hi, h => by
    obtain ⟨n, rfl⟩ : ∃ n, m = n + 1 := ⟨m - 1, by omega⟩
    rw [pre_succ, h n (by omega) (by omega), pre_same s i d n (by omega) (by omega) (fun j h1 h2 => h j h1 (by omega))]
    simp
theorem plist_loop (s : Nat) : ∀ (d i t : Nat), 32 - i ≤ d → i ≤ 32 → t < 2 ^ 32 → (∀ j, j < 32 → t.testBit j = (s.testBit j && decide (i ≤ j))) → Ev (fun k => (members_first.f t).bind fun bt => members_List.l0 k t (pre s i) bt.1 bt.2) (lst s)
  | d, i, t, hd, hi, ht, hb => by
    by_cases h0 : t = 0
    · subst h0
      have e : pre s i = lst s := pre_same s i _ 32 rfl hi fun j h1 h2 => by
        have := hb j h2
        rw [Nat.zero_testBit, decide_eq_true h1, Bool.and_true] at this
        exact this.symm
      rw [first_0, e]
      refine Ev.step (f := fun _ => some _) (fun k => ?_) (Ev.now _)
      simp only [Option.bind_some, members_List.l0]
      rfl
    · obtain ⟨c1, c2, c3⟩ := ctz_bit t h0 ht
      rw [first_f t ht h0]
      generalize Lib.ctz 32 t = c at *
      rw [hb c c2, Bool.and_eq_true, decide_eq_true_eq] at c1
      have hl := pre_le s i
      have e : pre s i ++ [(c : Int)] = pre s (c + 1) := by
        rw [pre_succ, c1.1, pre_same s i _ c rfl c1.2 fun j h1 h2 => by
          have := c3 j h2
          rw [hb j (by omega), decide_eq_true h1, Bool.and_true] at this
          exact this]
        simp
      cases d with
      | zero => omega
      | succ d =>
        refine Ev.step (fun k => ?_) (plist_loop s d (c + 1) (wo t c) (by omega) (by omega) (wo_lt _ _) fun j hj => ?_)
        · simp only [Option.bind_some, members_List.l0]
          rw [if_pos trivial, if_pos (by omega), without_f, e]
          rfl
        · rw [wo_bit _ _ _ hj, hb j hj]
          by_cases h1 : j < c
          · have h2 := c3 j h1
            rw [hb j hj] at h2
            rw [h2, decide_eq_false (show ¬ c + 1 ≤ j by omega)]; simp
          · by_cases h3 : c = j
            · subst h3; simp
            · rw [decide_eq_true (show i ≤ j by omega), decide_eq_true (show c + 1 ≤ j by omega), decide_eq_false (show ¬ ((c : Int) = j) by omega)]; simp
theorem plist_ev (s : Nat) (hs : s < 2 ^ 32) : Ev (fun k => members_List.f k s) (lst s) :=
  plist_loop s 32 0 s (by omega) (by omega) hs fun j hj => by simp

/-- How many. -/
def cnt (n x : Nat) : Nat := ((List.range n).filter x.testBit).length
theorem cnt_add (m n x : Nat) : cnt (m + n) x = cnt m x + cnt n (x / 2 ^ m) := by
  unfold cnt
  rw [List.range_add, List.filter_append, List.length_append, List.filter_map, List.length_map]
  congr 2
  apply List.filter_congr
  intro j _
  simp only [Function.comp]
  rw [Nat.add_comm m j, Nat.testBit_add]
theorem cnt_mod (x : Nat) : cnt 8 x = cnt 8 (x % 256) := by
  unfold cnt
  congr 1
  apply List.filter_congr
  intro j hj
  rw [show (256 : Nat) = 2 ^ 8 from rfl, Nat.testBit_mod_two_pow, decide_eq_true (List.mem_range.1 hj), Bool.true_and]
theorem cnt_8 : ∀ n : Fin 256, Lib.onesCount n.val = cnt 8 n.val := by decide +kernel
theorem lst_cnt (s : Nat) (hs : s < 2 ^ 32) : ones4 s = (lst s).length := by
  have e1 : (lst s).length = cnt 32 s := by unfold lst pre cnt; rw [List.length_map]
  rw [e1, show (32 : Nat) = 8 + (8 + (8 + 8)) from rfl, cnt_add, cnt_add, cnt_add, Nat.div_div_eq_div_mul, Nat.div_div_eq_div_mul]
  unfold ones4
  rw [cnt_8 ⟨s / 16777216, by omega⟩, cnt_8 ⟨s / 65536 % 256, by omega⟩, cnt_8 ⟨s / 256 % 256, by omega⟩, cnt_8 ⟨s % 256, by omega⟩]
  simp only
  rw [cnt_mod s, cnt_mod (s / 2 ^ 8), cnt_mod (s / (2 ^ 8 * 2 ^ 8)), show (2 ^ 8 : Nat) = 256 from rfl]
  rw [show 256 * 256 = 65536 from rfl, show 65536 * 256 = 16777216 from rfl]
  omega
theorem len_f (s : Nat) (hs : s < 2 ^ 32) : members_Len.f s = some ((lst s).length : Int) := by
  unfold members_Len.f bits_OnesCount32.f
  rw [if_pos (by omega), Int.toNat_natCast, lst_cnt s hs]
  rfl

/-- A set of a list. -/
theorem of_loop (l : List Int) (hl : l.length ≤ 1000) : ∀ (d i : Nat), l.length - i = d → i ≤ l.length → Ev (fun k => fuglemanref05_Of.l0 k l (put (fun _ => true) 0 (l.take i) : Nat) i) (put (fun _ => true) 0 l : Nat)
  | 0, i, hd, hi => by
    obtain rfl : i = l.length := by omega
    refine Ev.step (f := fun _ => some _) (fun k => ?_) (Ev.now _)
    simp only [fuglemanref05_Of.l0]
    rw [if_neg (by omega), List.take_length]
  | d + 1, i, hd, hi => by
    have ih := of_loop l hl d (i + 1) (by omega) (by omega)
    rw [take_put _ _ _ _ (by omega), if_pos rfl] at ih
    have hlt := put_lt (fun _ => true) (l.take i) 0 (by decide)
    refine Ev.step (fun k => ?_) (Ev.bind (f := fun k t => fuglemanref05_Of.l0 k l t ((i + 1 : Nat) : Int)) (with_ref _ (rd l i) hlt) ih)
    simp only [fuglemanref05_Of.l0]
    rw [if_pos (by omega), if_pos (by omega), w64 (by omega) (by omega)]
    rfl
theorem of_ev (s : Nat) (hs : s < 2 ^ 32) : Ev (fun k => fuglemanref05_Of.f k (lst s)) (s : Int) := by
  have e : put (fun _ => true) 0 (lst s) = s := ext32 (put_lt _ _ _ (by decide)) hs fun j hj => by
    rw [put_bit _ _ _ _ hj, lst_any _ _ _ hj, Nat.zero_testBit, Bool.false_or, Bool.and_true]
  have := of_loop (lst s) (by have := lst_len s; omega) _ 0 rfl (by omega)
  rw [e] at this
  exact this
theorem same_list (l : List Int) (hl : l.length ≤ 1000) : ∀ (d i : Nat), l.length - i = d → i ≤ l.length → Ev (fun k => fuglemanlaw05_list.l0 k l l (l.length : Int) i) true
  | 0, i, hd, hi => by
    refine Ev.step (f := fun _ => some _) (fun k => ?_) (Ev.now _)
    simp only [fuglemanlaw05_list.l0]
    rw [if_neg (by omega)]
  | d + 1, i, hd, hi => by
    refine Ev.step (fun k => ?_) (same_list l hl d (i + 1) (by omega) (by omega))
    simp only [fuglemanlaw05_list.l0]
    rw [if_pos (by omega), if_pos (by omega), if_pos (by omega), if_pos (by omega), if_pos trivial, w64 (by omega) (by omega)]
    rfl
theorem same_list_ev (l : List Int) (hl : l.length ≤ 1000) : Ev (fun k => fuglemanlaw05_list.f k l l) true :=
  Ev.congr (fun k => by unfold fuglemanlaw05_list.f; rw [if_pos rfl]; rfl) (same_list l hl _ 0 rfl (by omega))

/-- The text. -/
def bs (l : List UInt8) : ByteArray := ⟨l.toArray⟩
theorem bs_app (a b : List UInt8) : bs a ++ bs b = bs (a ++ b) := by
  apply ByteArray.ext
  rw [ByteArray.data_append]
  simp [bs]
theorem bs_size (a : List UInt8) : (bs a).size = a.length := by simp [bs, ByteArray.size]
def dg (x : Int) : List UInt8 := Lib.decDigits x.toNat
theorem dg_all : ∀ n : Fin 32, fuglemanref03_Digits.f 3 (n.val : Int) = some (bs (dg (n.val : Int))) ∧ (dg (n.val : Int)).length ≤ 2 := by decide +kernel
theorem join_snoc (xs : List (List UInt8)) (y sep : List UInt8) (h : xs ≠ []) : Lib.join (xs ++ [y]) sep = Lib.join xs sep ++ (sep ++ y) := by
  cases xs with
  | nil => exact absurd rfl h
  | cons x r =>
    rw [List.cons_append, Lib.join_cons, Lib.join_cons]
    simp [Lib.joinTail]
def tx (l : List Int) : List UInt8 := Lib.join (l.map dg) [44]
theorem tx_snoc (l : List Int) (x : Int) : tx (l ++ [x]) = if l = [] then dg x else tx l ++ ([44] ++ dg x) := by
  unfold tx
  rw [List.map_append]
  by_cases h : l = []
  · subst h
    rw [if_pos rfl]
    exact Lib.join_one _ _
  · rw [if_neg h]
    exact join_snoc _ _ _ (by simpa using h)
def small (l : List Int) : Prop := ∀ x ∈ l, ∃ j : Nat, x = j ∧ j < 32
theorem small_lst (s : Nat) : small (lst s) := fun x hx => by
  obtain ⟨j, h1, h2, _⟩ := (pre_mem _ _ _).1 hx
  exact ⟨j, h1, h2⟩
theorem tx_len (l : List Int) (h : small l) : ∀ i, i ≤ l.length → (tx (l.take i)).length ≤ 3 * i
  | 0, _ => by simp [tx, Lib.join_nil]
  | i + 1, hi => by
    have ih := tx_len l h i (by omega)
    rw [List.take_succ_eq_append_getElem (by omega), tx_snoc]
    obtain ⟨j, h1, h2⟩ := h _ (List.getElem_mem (show i < l.length by omega))
    have h3 := (dg_all ⟨j, h2⟩).2
    rw [h1]
    simp only at h3
    split
    · omega
    · simp only [List.length_append, List.length_cons, List.length_nil]; omega
theorem rd_get (l : List Int) (i : Nat) (hi : i < l.length) : rd l i = l[i] := by rw [rd_nat]; simp [List.getD, hi]
theorem ptext_loop (l : List Int) (hl : l.length ≤ 32) (h : small l) : ∀ (d i : Nat), l.length - i = d → i ≤ l.length → Ev (fun k => members_Text.l0 k ((l.take i).map fun x => bs (dg x)) l (l.length : Int) i) (bs ([123] ++ (tx l ++ [125])))
  | 0, i, hd, hi => by
    obtain rfl : i = l.length := by omega
    have hz := tx_len l h l.length (Nat.le_refl _)
    rw [List.take_length] at hz ⊢
    have ej : strings_Join.f (l.map fun x => bs (dg x)) (⟨#[44]⟩ : ByteArray) = some (bs (tx l)) := by
      unfold strings_Join.f
      have e1 : (l.map fun x => bs (dg x)).map (·.data.toList) = l.map dg := by
        rw [List.map_map]; rfl
      rw [e1, if_pos]
      · rfl
      · rw [List.length_map]
        exact ⟨by omega, by show (tx l).length ≤ _; omega⟩
    refine Ev.step (f := fun _ => some _) (fun k => ?_) (Ev.now _)
    simp only [members_Text.l0]
    rw [if_neg (by omega), ej]
    simp only [Option.bind_some]
    rw [show (⟨#[123]⟩ : ByteArray) = bs [123] from rfl, show (⟨#[125]⟩ : ByteArray) = bs [125] from rfl, bs_app, bs_app, bs_size, bs_size, if_pos (by omega), if_pos (by simp only [List.length_append, List.length_cons, List.length_nil]; omega), List.append_assoc]
  | d + 1, i, hd, hi => by
    have ih := ptext_loop l hl h d (i + 1) (by omega) (by omega)
    obtain ⟨j, h1, h2⟩ := h _ (List.getElem_mem (show i < l.length by omega))
    have er : rd l i = (j : Int) := (rd_get l i (by omega)).trans h1
    rw [List.take_succ_eq_append_getElem (by omega), List.map_append, h1] at ih
    refine Ev.step (fun k => ?_) ih
    simp only [members_Text.l0]
    have ei : strconv_Itoa_41.f (j : Int) = some (bs (dg j)) := by
      unfold strconv_Itoa_41.f
      rw [if_pos (by omega)]
      rfl
    rw [if_pos (by omega), if_pos (by omega), if_pos (by omega), er, ei, w64 (by omega) (by omega)]
    simp only [Option.bind_some]
    rw [if_pos (by rw [List.length_map, List.length_take]; omega)]
    rfl
theorem rtext_loop (l : List Int) (hl : l.length ≤ 32) (h : small l) : ∀ (d i : Nat), l.length - i = d → i ≤ l.length → Ev (fun k => fuglemanref05_Text.l0 k l (bs ([123] ++ tx (l.take i))) i) (bs ([123] ++ (tx l ++ [125])))
  | 0, i, hd, hi => by
    obtain rfl : i = l.length := by omega
    have hz := tx_len l h l.length (Nat.le_refl _)
    rw [List.take_length] at hz ⊢
    refine Ev.step (f := fun _ => some _) (fun k => ?_) (Ev.now _)
    simp only [fuglemanref05_Text.l0]
    rw [if_neg (by omega), show (⟨#[125]⟩ : ByteArray) = bs [125] from rfl, bs_app, bs_size, if_pos (by simp only [List.length_append, List.length_cons, List.length_nil]; omega), List.append_assoc]
  | d + 1, i, hd, hi => by
    have ih := rtext_loop l hl h d (i + 1) (by omega) (by omega)
    have hz := tx_len l h i (by omega)
    obtain ⟨j, h1, h2⟩ := h _ (List.getElem_mem (show i < l.length by omega))
    have er : rd l i = (j : Int) := (rd_get l i (by omega)).trans h1
    obtain ⟨ed, hd2⟩ := dg_all ⟨j, h2⟩
    simp only at ed hd2
    have hdg : Ev (fun k => fuglemanref03_Digits.f k (j : Int)) (bs (dg j)) := Ev.of (fuglemanref03_Digits.mono _) ed
    rw [List.take_succ_eq_append_getElem (by omega), tx_snoc, h1] at ih
    by_cases hi0 : i = 0
    · subst hi0
      rw [if_pos (by simp)] at ih
      refine Ev.step (f := fun k => (fuglemanref03_Digits.f k (j : Int)).bind fun t202 => (if (bs ([123] ++ tx (l.take 0))).size + t202.size ≤ 9223372036854775807 then (fuglemanref05_Text.l0 k l (bs ([123] ++ tx (l.take 0)) ++ t202) ((0 + 1 : Nat) : Int)) else (none))) (fun k => ?_) (Ev.bind hdg (Ev.congr (fun k => if_pos ?_) ?_))
      · simp only [fuglemanref05_Text.l0]
        rw [if_pos (by omega), if_neg (by omega), if_pos (by omega), er, w64 (by omega) (by omega)]
        rfl
      · rw [bs_size, bs_size]; simp only [List.length_append, List.length_cons, List.length_nil]; omega
      · rw [bs_app]
        exact ih
    · rw [if_neg (by intro hh; have h9 : (l.take i).length = i := (by rw [List.length_take]; omega); rw [hh] at h9; exact hi0 h9.symm)] at ih
      refine Ev.step (f := fun k => (fuglemanref03_Digits.f k (j : Int)).bind fun t200 => (if (bs ([123] ++ tx (l.take i)) ++ (⟨#[44]⟩ : ByteArray)).size + t200.size ≤ 9223372036854775807 then (fuglemanref05_Text.l0 k l ((bs ([123] ++ tx (l.take i)) ++ (⟨#[44]⟩ : ByteArray)) ++ t200) ((i + 1 : Nat) : Int)) else (none))) (fun k => ?_) (Ev.bind hdg (Ev.congr (fun k => if_pos ?_) ?_))
      · simp only [fuglemanref05_Text.l0]
        rw [if_pos (by omega), if_pos (by omega), if_pos (by rw [bs_size]; simp only [List.length_append, List.length_cons, List.length_nil]; omega), if_pos (by omega), er, w64 (by omega) (by omega)]
        rfl
      · rw [show (⟨#[44]⟩ : ByteArray) = bs [44] from rfl, bs_app, bs_size, bs_size]; simp only [List.length_append, List.length_cons, List.length_nil]; omega
      · rw [show (⟨#[44]⟩ : ByteArray) = bs [44] from rfl, bs_app, bs_app, List.append_assoc, List.append_assoc]
        exact ih
theorem ptext_ev (s : Nat) (hs : s < 2 ^ 32) : Ev (fun k => members_Text.f k s) (bs ([123] ++ (tx (lst s) ++ [125]))) :=
  Ev.bind (plist_ev s hs) (ptext_loop (lst s) (lst_len s) (small_lst s) _ 0 rfl (by omega))
theorem rtext_ev (s : Nat) (hs : s < 2 ^ 32) : Ev (fun k => fuglemanref05_Text.f k s) (bs ([123] ++ (tx (lst s) ++ [125]))) :=
  Ev.bind (list_ref s hs) (rtext_loop (lst s) (lst_len s) (small_lst s) _ 0 rfl (by omega))

theorem sets_law (s : Nat) (a : Int) (hs : s < 2 ^ 32) : Ev (fun k => fuglemanlaw05_MembersSets.f k s a) true := by
  unfold fuglemanlaw05_MembersSets.f
  have hl := lst_len s
  refine Ev.bind awake_ev (Ev.congr (fun k => if_pos rfl) ?_)
  rw [has_f s a hs, with_f s a hs, without_f, len_f s hs]
  simp only [Option.bind_some]
  refine Ev.bind (list_ref s hs) (Ev.bind (has_ref s a hs) (Ev.congr (fun k => if_pos (by simp)) ?_))
  refine Ev.bind (with_ref s a hs) (Ev.congr (fun k => if_pos rfl) ?_)
  refine Ev.bind (without_ref s a hs) (Ev.congr (fun k => if_pos rfl) ?_)
  refine Ev.bind (plist_ev s hs) (Ev.bind (same_list_ev _ (by omega)) (Ev.congr (fun k => if_pos rfl) (Ev.congr (fun k => if_pos rfl) ?_)))
  refine Ev.bind (ptext_ev s hs) (Ev.bind (rtext_ev s hs) (Ev.congr (fun k => if_pos rfl) ?_))
  refine Ev.bind (of_ev s hs) (Ev.congr (fun k => ?_) (Ev.now _))
  simp
end Go.Proofs.YtfhiggefmcklaaaDoor.Plain

/- Plain facts on a station's inputs: the program's and the reference's are the same bytes. No condition but those that each states. -/
import Derived.Test.YtojcflaghicdiaaOpen
import Derived.Test.YtojcflaghicdiaaPlain1
namespace Go.Proofs.Ytojcflaghicdiaa.Plain
open Go.RowKit Go.Proofs.Ytojcflaghicdiaa.Own Go.Proofs.YtojcflaghicdiaaW.PrintWords Go.Proofs.YtojcflaghicdiaaW.PrintLast Go.Proofs.YtojcflaghicdiaaW.PrintMore

theorem wf64 {x : Int} (h : (Lit.int .i64 x).wf = true) : -9223372036854775808 ≤ x ∧ x ≤ 9223372036854775807 := by
  simp [Lit.wf] at h
  have e : IntKind.i64.min = -9223372036854775808 := by decide
  rw [e] at h
  exact h
theorem over_gd (b : List UInt8) (o : Nat) (v : List UInt8) (h : o ≤ b.length) (j : Nat) : (over b o v).getD j 0 = if o ≤ j ∧ j < o + min v.length (b.length - o) then v.getD (j - o) 0 else b.getD j 0 := by
  simp only [List.getD]
  rw [over_get b o v h j]
  split <;> rfl
theorem putl_gd (b : List UInt8) (at_ : Int) (v : List UInt8) (j : Nat) (hj : j < b.length) : (putl b at_ v).getD j 0 = if at_ ≤ j ∧ (j : Int) - at_ < v.length then v.getD ((j : Int) - at_).toNat 0 else b.getD j 0 := by
  unfold putl
  by_cases h1 : at_ < 0
  · rw [if_pos h1]
    by_cases h2 : (v.length : Int) ≤ -at_
    · rw [if_pos h2, if_neg (by omega)]
    · rw [if_neg h2, over_gd b 0 _ (Nat.zero_le _)]
      have hl : (v.drop (-at_).toNat).length = v.length - (-at_).toNat := List.length_drop
      by_cases h3 : (j : Int) - at_ < v.length
      · rw [if_pos (show 0 ≤ j ∧ j < 0 + min (v.drop (-at_).toNat).length (b.length - 0) by rw [hl]; omega), if_pos ⟨by omega, h3⟩]
        simp only [List.getD, List.getElem?_drop]
        congr 2
        omega
      · rw [if_neg (show ¬ (0 ≤ j ∧ j < 0 + min (v.drop (-at_).toNat).length (b.length - 0)) by rw [hl]; omega), if_neg (by omega)]
  · rw [if_neg h1]
    by_cases h2 : at_ < (b.length : Int)
    · rw [if_pos h2, over_gd b _ _ (by omega)]
      by_cases h3 : at_ ≤ j ∧ (j : Int) - at_ < v.length
      · rw [if_pos (show at_.toNat ≤ j ∧ j < at_.toNat + min v.length (b.length - at_.toNat) by omega), if_pos h3]
        congr 1
        omega
      · rw [if_neg (show ¬ (at_.toNat ≤ j ∧ j < at_.toNat + min v.length (b.length - at_.toNat)) by omega), if_neg h3]
    · rw [if_neg h2, if_neg (by omega)]
def gat (l : List S32) (vs : List ByteArray) (b : UInt8) (j : Nat) : Nat → UInt8
  | 0 => b
  | k + 1 => if (sp l k).f1 ≤ j ∧ (j : Int) - (sp l k).f1 < (rdOf ByteArray.empty vs (k : Int)).data.toList.length then (rdOf ByteArray.empty vs (k : Int)).data.toList.getD ((j : Int) - (sp l k).f1).toNat 0 else gat l vs b j k
theorem inp_len (l : List S32) (vs : List ByteArray) (b : List UInt8) : ∀ k, (inp l vs b k).length = b.length
  | 0 => rfl
  | k + 1 => by rw [inp_succ, putl_len]; exact inp_len l vs b k
theorem inp_gd (l : List S32) (vs : List ByteArray) (b : List UInt8) (j : Nat) (hj : j < b.length) : ∀ k, (inp l vs b k).getD j 0 = gat l vs (b.getD j 0) j k
  | 0 => rfl
  | k + 1 => by
    rw [inp_succ, putl_gd _ _ _ _ (by rw [inp_len]; exact hj), rd_sp, inp_gd l vs b j hj k]
    rfl
def base (lo : Int) (own : ByteArray) (j : Nat) : UInt8 := if (j : Int) < lo then own.data.toList.getD j 0 else 0
theorem b0_gd (lo : Int) (own : ByteArray) (j : Nat) (hj : j < 64) : (image_Inputs.b0 lo own).getD j 0 = base lo own j := by
  unfold image_Inputs.b0 base
  have hz : (List.replicate 64 (0 : UInt8)).getD j 0 = 0 := by
    simp only [List.getD]
    rw [List.getElem?_replicate, if_pos hj]
    rfl
  have hl := data_length own
  rw [putl_gd _ _ _ _ (by simp; exact hj), hz]
  by_cases h : (j : Int) < lo
  · rw [if_pos h]
    by_cases h2 : j < own.size
    · rw [if_pos (by simp; omega)]
      simp only [List.getD, Int.sub_zero, Int.toNat_natCast]
      rw [List.getElem?_take_of_lt (by omega)]
    · rw [if_neg (by simp; omega)]
      simp only [List.getD]
      rw [List.getElem?_eq_none (by omega)]
      rfl
  · rw [if_neg h, if_neg (by simp; omega)]
theorem bt_gd (s : ByteArray) (x : Int) : bt s x = ((s.data.toList.getD x.toNat 0).toNat : Int) := by
  unfold bt
  split
  · rename_i h
    have hl := data_length s
    simp only [List.getD]
    rw [List.getElem?_eq_getElem (by omega)]
    rfl
  · rename_i h
    have hl := data_length s
    simp only [List.getD]
    rw [List.getElem?_eq_none (by omega)]
    rfl
def row (G : Nat → Int) (i : Nat) (x : Int) : List Int := (List.range 64).map fun j => if j < i then G j else if j = i then x else 0
theorem row_len (G : Nat → Int) (i : Nat) (x : Int) : (row G i x).length = 64 := by simp [row]
theorem row_set (G : Nat → Int) (i : Nat) (x y : Int) : (row G i x).set i y = row G i y := by
  refine List.ext_getElem (by simp [row]) fun j h1 h2 => ?_
  simp only [row, List.getElem_set, List.getElem_map, List.getElem_range]
  by_cases h : i = j
  · subst h; simp
  · rw [if_neg h]
    by_cases h3 : j < i
    · rw [if_pos h3, if_pos h3]
    · rw [if_neg h3, if_neg h3, if_neg (fun e => h e.symm), if_neg (fun e => h e.symm)]
theorem row_next (G : Nat → Int) (i : Nat) : row G i (G i) = row G (i + 1) 0 := by
  refine List.map_congr_left fun j _ => ?_
  by_cases h : j < i
  · rw [if_pos h, if_pos (by omega)]
  · rw [if_neg h]
    by_cases h2 : j = i
    · subst h2; rw [if_pos rfl, if_pos (by omega)]
    · rw [if_neg h2, if_neg (by omega)]
      split <;> rfl
theorem row_start (G : Nat → Int) : row G 0 0 = List.replicate 64 0 := by
  refine List.ext_getElem (by simp [row]) fun j h1 h2 => ?_
  rw [List.getElem_replicate]
  simp only [row, List.getElem_map, List.getElem_range]
  rw [if_neg (by omega)]
  split <;> rfl
theorem row_end (G : Nat → Int) : row G 64 0 = (List.range 64).map G := by
  refine List.map_congr_left fun j hj => ?_
  rw [if_pos (by simpa using hj)]

section
variable (lo : Int) (own : ByteArray) (l : List S32) (vs : List ByteArray) (hl : l.length ≤ 1000) (hv : vs.length ≤ 1000) (hs : ∀ k, k < vs.length → (rdOf ByteArray.empty vs (k : Int)).size ≤ 100)
  (hat : ∀ k, k < l.length → -9223372036854775808 ≤ (sp l k).f1 ∧ (sp l k).f1 ≤ 9223372036854775807)
include hl hv hs hat
theorem text_loop (G : Nat → Int) (i : Nat) (hi : i < 64) (b : UInt8) {r : ByteArray} (hG : G i = (gat l vs b i (min l.length vs.length)).toNat)
    (hnext : Ev (fun k => fuglemanref19_Inputs.l0 k lo own l vs (row G (i + 1) 0) ((i + 1 : Nat) : Int)) r) :
    ∀ (d q : Nat), min l.length vs.length - q = d → q ≤ min l.length vs.length → Ev (fun k => fuglemanref19_Inputs.l1 k lo own l vs (row G i ((gat l vs b i q).toNat : Int)) i q) r
  | 0, q, hd, hq => by
    obtain rfl : q = min l.length vs.length := by omega
    have hend : Ev (fun k => fuglemanref19_Inputs.j3 k lo own l vs (row G i ((gat l vs b i (min l.length vs.length)).toNat : Int)) i ((min l.length vs.length : Nat) : Int) false) r := by
      refine Ev.step (fun k => ?_) hnext
      simp only [fuglemanref19_Inputs.j3]
      rw [if_neg (by simp), ← hG, row_next, w64 (by omega) (by omega)]
      rfl
    refine Ev.step (fun k => ?_) hend
    simp only [fuglemanref19_Inputs.l1]
    by_cases h : ((min l.length vs.length : Nat) : Int) < (l.length : Int)
    · rw [if_pos h, decide_eq_false (by omega)]
    · rw [if_neg h]
  | d + 1, q, hd, hq => by
    have ih := text_loop G i hi b hG hnext d (q + 1) (by omega) (by omega)
    have ha := hat q (by omega)
    have hsz := hs q (by omega)
    have hvl := data_length (rdOf ByteArray.empty vs (q : Int))
    refine Ev.step (f := fun k => fuglemanref19_Inputs.j3 k lo own l vs (row G i ((gat l vs b i q).toNat : Int)) i q true) (fun k => ?_) (Ev.step (fun k => ?_) ih)
    · simp only [fuglemanref19_Inputs.l1]
      rw [if_pos (by omega), decide_eq_true (by omega)]
    · simp only [fuglemanref19_Inputs.j3]
      rw [if_pos trivial, if_pos (by omega), if_pos (by omega), rd_sp, w64 (x := (q : Int) + 1) (by omega) (by omega)]
      have hcast : ((q + 1 : Nat) : Int) = (q : Int) + 1 := by omega
      by_cases h1 : (sp l q).f1 ≤ (i : Int)
      · rw [if_pos h1]
        by_cases h2 : (sp l q).f1 ≥ -10000
        · rw [if_pos h2, if_pos (by omega), w64 (x := (i : Int) - (sp l q).f1) (by omega) (by omega)]
          by_cases h3 : (i : Int) - (sp l q).f1 < ((rdOf ByteArray.empty vs (q : Int)).size : Int)
          · rw [if_pos h3, if_pos (by omega), if_pos (by omega), if_pos (by rw [row_len]; omega), Int.toNat_natCast, row_set, bt_gd]
            unfold gat
            rw [if_pos ⟨h1, by rw [hvl]; exact h3⟩, hcast]
          · rw [if_neg h3]
            unfold gat
            rw [if_neg (by rw [hvl]; omega), hcast]
            cases q <;> rfl
        · rw [if_neg h2]
          unfold gat
          rw [if_neg (by rw [hvl]; omega), hcast]
          cases q <;> rfl
      · rw [if_neg h1]
        unfold gat
        rw [if_neg (by omega), hcast]
        cases q <;> rfl
theorem place_loop (G : Nat → Int) (hG : ∀ i, i < 64 → G i = (gat l vs (base lo own i) i (min l.length vs.length)).toNat) : ∀ (d i : Nat), 64 - i = d → i ≤ 64 → Ev (fun k => fuglemanref19_Inputs.l0 k lo own l vs (row G i 0) i) (strOfNums ((List.range 64).map G))
  | 0, i, hd, hi => by
    obtain rfl : i = 64 := by omega
    refine Ev.step (f := fun _ => some _) (fun k => ?_) (Ev.now _)
    simp only [fuglemanref19_Inputs.l0]
    rw [if_neg (by omega), row_end]
  | d + 1, i, hd, hi => by
    have ih := place_loop G hG d (i + 1) (by omega) (by omega)
    have ht := text_loop lo own l vs hl hv hs hat G i (by omega) (base lo own i) (hG i (by omega)) ih _ 0 rfl (Nat.zero_le _)
    have hj1 : Ev (fun k => fuglemanref19_Inputs.j1 k lo own l vs (row G i ((base lo own i).toNat : Int)) i) (strOfNums ((List.range 64).map G)) := by
      refine Ev.step (fun k => ?_) ht
      simp only [fuglemanref19_Inputs.j1]
      rfl
    refine Ev.step (fun k => ?_) hj1
    simp only [fuglemanref19_Inputs.l0]
    rw [if_pos (by omega)]
    by_cases h : (i : Int) < lo
    · have hb : fuglemanref19_Byte.f own (i : Int) = some ((base lo own i).toNat : Int) := by
        unfold fuglemanref19_Byte.f base
        have hlen := data_length own
        rw [if_neg (by omega), if_pos h]
        by_cases h2 : (i : Int) ≥ (own.size : Int)
        · rw [if_pos h2]
          simp only [List.getD]
          rw [List.getElem?_eq_none (by omega)]
          rfl
        · rw [if_neg h2, if_pos (by omega), if_pos (by omega), bt_gd, Int.toNat_natCast]
      rw [if_pos h, hb]
      simp only [Option.bind_some]
      rw [if_pos (by omega), if_pos (by rw [row_len]; omega), Int.toNat_natCast, row_set]
    · rw [if_neg h]
      unfold base
      rw [if_neg h]
      rfl
theorem inputs_ref : Ev (fun k => fuglemanref19_Inputs.f k lo own l vs) ⟨(inp l vs (image_Inputs.b0 lo own) (min l.length vs.length)).toArray⟩ := by
  have h := place_loop lo own l vs hl hv hs hat (fun i => ((gat l vs (base lo own i) i (min l.length vs.length)).toNat : Int)) (fun i _ => rfl) 64 0 (by omega) (by omega)
  have e : (List.range 64).map (fun i => ((gat l vs (base lo own i) i (min l.length vs.length)).toNat : Int)) = (inp l vs (image_Inputs.b0 lo own) (min l.length vs.length)).map fun x => (x.toNat : Int) := by
    refine List.ext_getElem (by rw [List.length_map, List.length_map, inp_len, image_Inputs.b0_len]; simp) fun j h1 h2 => ?_
    simp at h1
    have hj := inp_gd l vs (image_Inputs.b0 lo own) j (by rw [image_Inputs.b0_len]; exact h1) (min l.length vs.length)
    rw [b0_gd lo own j h1] at hj
    simp only [List.getElem_map, List.getElem_range]
    rw [← hj]
    simp only [List.getD]
    rw [List.getElem?_eq_getElem (by rw [inp_len, image_Inputs.b0_len]; exact h1)]
    rfl
  rw [e, strOfNums_bytes, row_start] at h
  exact h
theorem inputs_prog (hown : own.size ≤ 100) : image_Inputs.f lo own l vs = some ⟨(inp l vs (image_Inputs.b0 lo own) (min l.length vs.length)).toArray⟩ := by
  unfold image_Inputs.f
  rw [if_pos]
  refine ⟨by omega, by omega, by omega, ?_, ?_⟩
  · rw [List.all_eq_true]
    intro s hsm
    obtain ⟨k, hk, rfl⟩ := List.getElem_of_mem hsm
    have := hat k hk
    have e : sp l k = l[k] := by simp [sp, List.getD, hk]
    rw [e] at this
    exact decide_eq_true this
  · rw [List.all_eq_true]
    intro v hvm
    obtain ⟨k, hk, rfl⟩ := List.getElem_of_mem hvm
    have := hs k hk
    have e : rdOf ByteArray.empty vs (k : Int) = vs[k] := by simp [rdOf, List.getD, hk]
    rw [e] at this
    exact decide_eq_true (by omega)
end
theorem law_sizes (lo : Int) (own : ByteArray) (l : List S32) (vs : List ByteArray) (hl : l.length ≤ 1000) (hv : vs.length ≤ 1000) (hown : own.size ≤ 100)
    (hat : ∀ k, k < l.length → -9223372036854775808 ≤ (sp l k).f1 ∧ (sp l k).f1 ≤ 9223372036854775807) :
    ∀ (d i : Nat), vs.length - i = d → i ≤ vs.length → (∀ k, k < i → (rdOf ByteArray.empty vs (k : Int)).size ≤ 100) → Ev (fun k => fuglemanlaw19_ImageInputs.l0 k lo l own vs vs (vs.length : Int) i) true
  | 0, i, hd, hi, hs => by
    have h1 := inputs_prog lo own l vs hl hv (fun k hk => hs k (by omega)) hat hown
    have h2 := inputs_ref lo own l vs hl hv (fun k hk => hs k (by omega)) hat
    refine Ev.step (f := fun k => (fuglemanref19_Inputs.f k lo own l vs).bind fun t => some ((ByteArray.mk (inp l vs (image_Inputs.b0 lo own) (min l.length vs.length)).toArray).toList == t.toList)) (fun k => ?_) (Ev.bind h2 ?_)
    · simp only [fuglemanlaw19_ImageInputs.l0]
      rw [if_neg (by omega), h1]
      rfl
    · simp
      exact Ev.now _
  | d + 1, i, hd, hi, hs => by
    by_cases h : ((rdOf ByteArray.empty vs (i : Int)).size : Int) > 100
    · refine Ev.step (f := fun _ => some _) (fun k => ?_) (Ev.now _)
      simp only [fuglemanlaw19_ImageInputs.l0]
      rw [if_pos (by omega), if_pos (by omega), if_pos (by omega), if_pos h]
    · refine Ev.step (fun k => ?_) (law_sizes lo own l vs hl hv hown hat d (i + 1) (by omega) (by omega) (fun k hk => ?_))
      · simp only [fuglemanlaw19_ImageInputs.l0]
        rw [if_pos (by omega), if_pos (by omega), if_pos (by omega), if_neg h, w64 (by omega) (by omega)]
        rfl
      · by_cases e : k = i
        · rw [e]; omega
        · exact hs k (by omega)
theorem inputs_law (lo : Int) (l : List S32) (ts : List ByteArray) (hat : ∀ x ∈ l, g32 x) : Ev (fun k => fuglemanlaw19_ImageInputs.f k lo l ts) true := by
  unfold fuglemanlaw19_ImageInputs.f
  refine Ev.bind awake_ev ?_
  simp only [if_true]
  have ht : ∀ a b c, Ev (fun k => fuglemanlaw19_ImageInputs.j0 k a l b c true) true := fun a b c => by
    refine Ev.step (f := fun _ => some _) (fun k => ?_) (Ev.now _)
    simp only [fuglemanlaw19_ImageInputs.j0]
    rfl
  by_cases h0 : (ts.length : Int) = 0
  · simp only [if_pos h0]; exact Ev.now _
  · simp only [if_neg h0, if_pos (show 0 < (ts.length : Int) by omega), if_pos (show 1 ≤ (ts.length : Int) by omega)]
    by_cases h1 : ((rdOf ByteArray.empty ts 0).size : Int) > 100
    · simp only [if_pos h1]; exact ht _ _ _
    · simp only [if_neg h1]
      by_cases h2 : (l.length : Int) > 20
      · simp only [if_pos h2]; exact ht _ _ _
      · simp only [if_neg h2]
        by_cases h3 : ((ts.drop 1).length : Int) > 20
        · rw [decide_eq_true h3]; exact ht _ _ _
        · rw [decide_eq_false h3]
          refine Ev.step (fun k => ?_) (law_sizes lo (rdOf ByteArray.empty ts 0) l (ts.drop 1) (by omega) (by omega) (by omega) (fun k hk => ?_) _ 0 rfl (Nat.zero_le _) (fun k hk => by omega))
          · simp only [fuglemanlaw19_ImageInputs.j0]
            rfl
          · have e : sp l k = l[k] := by simp [sp, List.getD, hk]
            rw [e]
            exact wf64 (hat _ (List.getElem_mem hk)).2
end Go.Proofs.Ytojcflaghicdiaa.Plain

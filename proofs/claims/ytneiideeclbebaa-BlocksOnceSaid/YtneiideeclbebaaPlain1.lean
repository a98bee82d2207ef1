/- Plain facts on the parts of a value: how many there are, where each stands, and that cutting and joining them gives the value again. No condition but those that each states. -/
import Derived.Test.YtneiideeclbebaaOwnx3
namespace Go.Proofs.Ytneiideeclbebaa.Plain
open Go.RowKit Go.Proofs.Ytneiideeclbebaa.Own Go.Proofs.YtneiideeclbebaaW.PrintWords Go.Proofs.YtneiideeclbebaaW.PrintLast Go.Proofs.YtneiideeclbebaaW.PrintMore

theorem w64 {x : Int} (h0 : -9223372036854775808 ≤ x) (h1 : x ≤ 9223372036854775807) : wrap64 x = x := by unfold wrap64; omega

theorem awake_ev : Ev fuglemanlaw16_awake.f true := Ev.of fuglemanlaw16_awake.mono (k := 10) (by decide +kernel)

theorem parts_in (n : Int) (h1 : 1 ≤ n) (h2 : n ≤ 64) : blocks_Parts.f n = some ((n + 15) / 16) := by
  unfold blocks_Parts.f
  rw [if_neg (by omega), if_neg (by omega), w64 (x := n + 16) (by omega) (by omega), w64 (x := n + 16 - 1) (by omega) (by omega), Int.tdiv_eq_ediv_of_nonneg (by omega), w64 (by omega) (by omega)]
  congr 2
  omega
theorem parts_out (n : Int) (h : n < 1 ∨ 64 < n) : blocks_Parts.f n = some 0 := by
  unfold blocks_Parts.f
  by_cases h1 : n < 1
  · rw [if_pos h1]
  · rw [if_neg h1, if_pos (by omega)]
theorem mn_eq (a b : Int) : mn a b = min a b := by unfold mn; split <;> omega
theorem piece_in (n i : Int) (h1 : 1 ≤ n) (h2 : n ≤ 64) (h3 : 0 ≤ i) (h4 : i < (n + 15) / 16) : blocks_Piece.f n i = some (16 * i, min 16 (n - 16 * i)) := by
  unfold blocks_Piece.f
  rw [if_neg (by omega), parts_in n h1 h2]
  simp only [Option.bind_some]
  rw [if_neg (by omega), w64 (x := i * 16) (by omega) (by omega), w64 (by omega) (by omega), mn_eq, Int.mul_comm i 16]
theorem piece_out (n i : Int) (h : n < 1 ∨ 64 < n ∨ i < 0 ∨ (n + 15) / 16 ≤ i) : blocks_Piece.f n i = some (0, 0) := by
  unfold blocks_Piece.f
  by_cases hi : i < 0
  · rw [if_pos hi]
  · rw [if_neg hi]
    by_cases hn : n < 1 ∨ 64 < n
    · rw [parts_out n hn]
      simp only [Option.bind_some]
      rw [if_pos (by omega)]
    · rw [parts_in n (by omega) (by omega)]
      simp only [Option.bind_some]
      rw [if_pos (by omega)]
theorem cut_in (v : ByteArray) (i : Nat) (h1 : 1 ≤ v.size) (h2 : v.size ≤ 64) (h4 : i < (v.size + 15) / 16) : blocks_Cut.f v i = some (v.extract (16 * i) (min (16 * i + 16) v.size)) := by
  unfold blocks_Cut.f
  rw [piece_in _ _ (by omega) (by omega) (by omega) (by omega)]
  simp only [Option.bind_some]
  rw [if_pos (by omega), w64 (by omega) (by omega), if_pos (by omega), if_pos (by omega)]
  congr 2 <;> omega
theorem cut_out (v : ByteArray) (i : Int) (hv : v.size ≤ 100) (h : (v.size : Int) < 1 ∨ 64 < (v.size : Int) ∨ i < 0 ∨ ((v.size : Int) + 15) / 16 ≤ i) : blocks_Cut.f v i = some ByteArray.empty := by
  unfold blocks_Cut.f
  rw [piece_out _ _ h]
  simp only [Option.bind_some]
  rw [if_pos (by omega), w64 (by omega) (by omega), if_pos (by omega), if_pos (by omega)]
  congr 1
  rw [ByteArray.extract_eq_empty_iff]
  simp

def pc (v : ByteArray) (i : Nat) : ByteArray := v.extract (16 * i) (min (16 * i + 16) v.size)
def pcs (v : ByteArray) (m : Nat) : List ByteArray := (List.range m).map (pc v)
theorem pcs_succ (v : ByteArray) (m : Nat) : pcs v (m + 1) = pcs v m ++ [pc v m] := by simp [pcs, List.range_succ]
theorem pcs_len (v : ByteArray) (m : Nat) : (pcs v m).length = m := by simp [pcs]

theorem all_loop (v : ByteArray) (hv : v.size ≤ 1000) : ∀ (d i : Nat), v.size - 16 * i ≤ d → (i = 0 ∨ 16 * i < v.size) →
    Ev (fun k => fuglemanref16_All.l0 k (v.extract (16 * i) v.size) (pcs v i)) (pcs v ((v.size + 15) / 16))
  | d, i, hd, hi => by
    have hs : (v.extract (16 * i) v.size).size = v.size - 16 * i := by simp
    by_cases h : 16 < v.size - 16 * i
    · obtain ⟨d, rfl⟩ : ∃ d', d = d' + 1 := ⟨d - 1, by omega⟩
      refine Ev.step (fun k => ?_) (all_loop v hv d (i + 1) (by omega) (by omega))
      simp only [fuglemanref16_All.l0]
      rw [if_pos (by omega), if_pos (by omega), if_pos (by omega), if_pos (by rw [pcs_len]; omega), pcs_succ, hs, ByteArray.extract_extract, ByteArray.extract_extract]
      rw [show pc v i = v.extract (16 * i + 0) (min (16 * i + 16) v.size) from rfl, show 16 * (i + 1) = 16 * i + 16 from by omega, show min (16 * i + (v.size - 16 * i)) v.size = v.size from by omega]
    · refine Ev.step (f := fun _ => some _) (fun k => ?_) (Ev.now _)
      simp only [fuglemanref16_All.l0]
      rw [if_neg (by omega)]
      by_cases h0 : v.size - 16 * i = 0
      · have hi0 : i = 0 := by omega
        subst hi0
        rw [if_pos (by rw [Go.ByteArray.toList_eq]; rw [← List.length_eq_zero_iff, data_length, hs]; omega)]
        congr 2
        omega
      · rw [if_neg (by rw [Go.ByteArray.toList_eq]; rw [← List.length_eq_zero_iff, data_length, hs]; omega), if_pos (by rw [pcs_len]; omega)]
        have e : (v.size + 15) / 16 = i + 1 := by omega
        rw [e, pcs_succ]
        congr 3
        unfold pc
        congr 1
        omega

theorem all_ev (v : ByteArray) (hv : v.size ≤ 1000) : Ev (fun k => fuglemanref16_All.f k v) (pcs v ((v.size + 15) / 16)) := by
  have h := all_loop v hv _ 0 (Nat.le_refl _) (.inl rfl)
  simp only [Nat.mul_zero, ByteArray.extract_zero_size] at h
  exact h

theorem j2_ev (v : ByteArray) (x1 : Int) (all : ByteArray) (b : Bool) (hv : v.size ≤ 100) (hb : b = true → x1 < 0 ∨ (v.size : Int) < 1 ∨ 64 < (v.size : Int) ∨ ((v.size : Int) + 15) / 16 ≤ x1) (ha : all = v ∨ (64 < v.size ∧ all = ByteArray.empty)) :
    Ev (fun k => fuglemanlaw16_BlocksParts.j2 k v x1 all b) true := by
  have hend : (if all.toList = v.toList then (some true) else (if (v.size : Int) > 64 then (some (all.toList == ([] : List UInt8))) else (some false))) = some true := by
    rcases ha with rfl | ⟨h, rfl⟩
    · rw [if_pos rfl]
    · split
      · rfl
      · rw [if_pos (by omega), Go.ByteArray.toList_eq]; rfl
  refine Ev.step (f := fun _ => some true) (fun k => ?_) (Ev.now _)
  simp only [fuglemanlaw16_BlocksParts.j2]
  cases b with
  | false => simpa using hend
  | true =>
    rw [if_pos rfl, piece_out _ _ (by have := hb rfl; omega)]
    simp only [Option.bind_some]
    rw [if_pos trivial, if_pos trivial, cut_out _ _ hv (by have := hb rfl; omega)]
    simp only [Option.bind_some]
    rw [if_pos (by rw [Go.ByteArray.toList_eq]; rfl)]
    exact hend
theorem rd_pcs (v : ByteArray) (m i : Nat) (h : i < m) : rdOf ByteArray.empty (pcs v m) (i : Int) = pc v i := by
  unfold rdOf pcs
  simp [List.getD, h]
theorem law_loop (v : ByteArray) (x1 : Int) (hv : v.size ≤ 64) : ∀ (d i : Nat), (v.size + 15) / 16 - i ≤ d → i ≤ (v.size + 15) / 16 →
    Ev (fun k => fuglemanlaw16_BlocksParts.l0 k v x1 (pcs v ((v.size + 15) / 16)) (v.extract 0 (min (16 * i) v.size)) (pcs v ((v.size + 15) / 16)) ((pcs v ((v.size + 15) / 16)).length : Int) i) true
  | d, i, hd, hi => by
    by_cases h : i < (v.size + 15) / 16
    · obtain ⟨d, rfl⟩ : ∃ d', d = d' + 1 := ⟨d - 1, by omega⟩
      refine Ev.step (fun k => ?_) (law_loop v x1 hv d (i + 1) (by omega) (by omega))
      simp only [fuglemanlaw16_BlocksParts.l0]
      have hpc : (pc v i).size = min 16 (v.size - 16 * i) := by unfold pc; rw [ByteArray.size_extract]; omega
      rw [pcs_len, if_pos (by omega), if_pos (by omega), if_pos (by omega), piece_in _ _ (by omega) (by omega) (by omega) (by omega), cut_in _ _ (by omega) (by omega) (by omega), rd_pcs _ _ _ h]
      simp only [Option.bind_some]
      have hx6 : (v.extract 0 (min (16 * i) v.size)).size = 16 * i := by rw [ByteArray.size_extract]; omega
      rw [if_pos (show (v.extract (16 * i) (min (16 * i + 16) v.size)).toList = (pc v i).toList from rfl), if_pos (by rw [hx6]; omega), if_pos (by rw [hpc]; omega), if_neg (by omega), if_neg (by omega), if_pos (by rw [hx6, hpc]; omega), w64 (by omega) (by omega)]
      congr 1
      unfold pc
      rw [show min (16 * i) v.size = 16 * i from by omega, ByteArray.extract_append_extract]
      congr 1 <;> omega
    · obtain rfl : i = (v.size + 15) / 16 := by omega
      have hx6 : v.extract 0 (min (16 * ((v.size + 15) / 16)) v.size) = v := by
        rw [show min (16 * ((v.size + 15) / 16)) v.size = v.size from by omega, ByteArray.extract_zero_size]
      rw [hx6]
      by_cases h0 : x1 < 0
      · refine Ev.step (fun k => ?_) (j2_ev v x1 v true (by omega) (fun _ => .inl h0) (.inl rfl))
        simp only [fuglemanlaw16_BlocksParts.l0]
        rw [pcs_len, if_neg (by omega), if_pos h0]
      · refine Ev.step (fun k => ?_) (j2_ev v x1 v (decide (x1 ≥ ((pcs v ((v.size + 15) / 16)).length : Int))) (by omega) (fun hb => ?_) (.inl rfl))
        · simp only [fuglemanlaw16_BlocksParts.l0]
          rw [pcs_len, if_neg (by omega), if_neg h0]
        · have := of_decide_eq_true hb
          rw [pcs_len] at this
          omega
theorem law_long (v : ByteArray) (x1 : Int) (hv : v.size ≤ 100) (h : 64 < v.size) :
    Ev (fun k => fuglemanlaw16_BlocksParts.l0 k v x1 [] ByteArray.empty [] (([] : List ByteArray).length : Int) 0) true := by
  by_cases h0 : x1 < 0
  · refine Ev.step (fun k => ?_) (j2_ev v x1 ByteArray.empty true (by omega) (fun _ => .inl h0) (.inr ⟨h, rfl⟩))
    simp only [fuglemanlaw16_BlocksParts.l0]
    rw [if_neg (by simp), if_pos h0]
  · refine Ev.step (fun k => ?_) (j2_ev v x1 ByteArray.empty (decide (x1 ≥ (([] : List ByteArray).length : Int))) (by omega) (fun hb => by omega) (.inr ⟨h, rfl⟩))
    simp only [fuglemanlaw16_BlocksParts.l0]
    rw [if_neg (by simp), if_neg h0]

theorem parts_law (v : ByteArray) (x1 : Int) : Ev (fun k => fuglemanlaw16_BlocksParts.f k v x1) true := by
  unfold fuglemanlaw16_BlocksParts.f
  refine Ev.bind awake_ev ?_
  simp only [if_true]
  by_cases h : (v.size : Int) > 100
  · simp only [if_pos h]
    exact Ev.now _
  · simp only [if_neg h]
    refine Ev.bind (all_ev v (by omega)) ?_
    by_cases h2 : (v.size : Int) > 64
    · simp only [if_pos h2]
      refine Ev.step (fun k => ?_) (law_long v x1 (by omega) (by omega))
      simp only [fuglemanlaw16_BlocksParts.j0]
      rw [parts_out _ (by omega)]
      simp only [Option.bind_some]
      rw [if_pos (by simp)]
      rfl
    · simp only [if_neg h2]
      have hl := law_loop v x1 (by omega) _ 0 (Nat.le_refl _) (Nat.zero_le _)
      refine Ev.step (fun k => ?_) hl
      simp only [fuglemanlaw16_BlocksParts.j0]
      have hp : blocks_Parts.f (v.size : Int) = some ((pcs v ((v.size + 15) / 16)).length : Int) := by
        rw [pcs_len]
        by_cases h0 : v.size = 0
        · rw [parts_out _ (by omega), h0]; rfl
        · rw [parts_in _ (by omega) (by omega)]; congr 1
      rw [hp]
      simp only [Option.bind_some]
      rw [if_pos trivial]
      congr 1
      simp
      rfl
end Go.Proofs.Ytneiideeclbebaa.Plain

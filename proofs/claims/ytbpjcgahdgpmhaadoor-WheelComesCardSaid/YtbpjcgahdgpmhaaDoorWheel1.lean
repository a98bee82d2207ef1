/- The wheel of timers: New, and the searches for the soonest. Conditions: those that each statement names. -/
import Derived.Test.YtbpjcgahdgpmhaaDoorWheel0
namespace Go.Proofs.YtbpjcgahdgpmhaaDoor.Whl
open Go.RowKit Go.Proofs.YtbpjcgahdgpmhaaDoorW.PrintWords Go.Proofs.YtbpjcgahdgpmhaaDoorW.PrintLast Go.Proofs.YtbpjcgahdgpmhaaDoorW.PrintMore
set_option linter.unusedVariables false
def none_ : Wh := ⟨0, fun _ => 0, 0, fun _ => 0⟩
theorem new_f (w : World) :
    Calls Tryd.prog 7 #[] w fun e w' => e = .returned (.pointer (some ⟨w.heap.size, 0, none⟩)) ∧ At w' w.heap.size none_ ∧ Below w.heap.size w w' := by
  go_enter Tryd.func7, Tryd.ntmps7
  go_wp2
  go_ret
  have hb : ∀ (c : Array Value) (t : TypeId), (w.alloc (.cells c t)).heap[w.heap.size]? = some (.cells c t) := fun c t => by
    rw [show (w.alloc (.cells c t)).heap = w.heap.push (.cells c t) from rfl, Array.getElem?_push, if_pos rfl]
  have hc : ∀ (c : Array Value) (t : TypeId) (j : Nat), (w.alloc (.cells c t)).cell? ⟨w.heap.size, j, none⟩ = c[j]? := fun c t j => blk_cell (hb c t) j
  have hf : ∀ (c : Array Value) (t : TypeId) (j : Nat), (w.alloc (.cells c t)).frozen? ⟨w.heap.size, j, none⟩ = false := fun c t j => by
    simp only [World.frozen?, hb c t]
    simp
  refine ⟨rfl, ⟨(hc _ _ 0).trans rfl, fun j hj => (hc _ _ _).trans ?_, (hc _ _ 17).trans rfl, fun j hj => (hc _ _ _).trans ?_, fun j _ => hf _ _ j⟩, (Below.refl _ w).alloc (Nat.le_refl _) _⟩
  · rcases j with _ | _ | _ | _ | _ | _ | _ | _ | _ | _ | _ | _ | _ | _ | _ | _ | j
    all_goals first | rfl | omega
  · rcases j with _ | _ | _ | _ | _ | _ | _ | _ | _ | _ | _ | _ | _ | _ | _ | _ | _ | _ | _ | _ | _ | _ | _ | _ | _ | _ | _ | _ | _ | _ | _ | _ | j
    all_goals first | rfl | omega

/-! ### Soonest -/
theorem ret_two {p : Int × Bool} {a : Int} {b : Bool} (h : p = (a, b)) : Ending.returned (.tuple #[.int .i64 a, .bool b]) = .returned (.tuple #[.int .i64 p.1, .bool p.2]) := by rw [h]
def sstep (f : Nat → Int) (b : Int × Bool) (i : Nat) : Int × Bool := if 0 < f i ∧ (b.2 = false ∨ f i < b.1) then (f i, true) else b
def sfold (f : Nat → Int) (i : Nat) : Int × Bool := (List.range i).foldl (sstep f) (0, false)
theorem sfold_succ (f : Nat → Int) (i : Nat) : sfold f (i + 1) = sstep f (sfold f i) i := by unfold sfold; rw [List.range_succ, List.foldl_append]; rfl
def soon (s : Wh) : Int × Bool := sfold (fun i => left s i) 16
theorem w64 {x : Int} (h0 : -9223372036854775808 ≤ x) (h1 : x ≤ 9223372036854775807) : wrap64 x = x := by unfold wrap64; omega
theorem drawn_trans {a b c : World} (h : Drawn0 a b) (k : Drawn0 b c) : Drawn0 a c := by
  obtain ⟨n, rfl⟩ := h
  obtain ⟨m, rfl⟩ := k
  exact ⟨n + m, by simp⟩
theorem soon_f (w : World) (g : Nat) (s : Wh) (h : At w g s) (hs : s.set < 65536) :
    Calls Tryd.prog 21 #[.pointer (some ⟨g, 0, none⟩)] w fun e w' => e = .returned (.tuple #[.int .i64 (soon s).1, .bool (soon s).2]) ∧ Drawn0 w w' := by
  have HA := Aside0.mk h
  have HS := Aside0.mk hs
  clear h hs
  go_enter Tryd.func21, Tryd.ntmps21
  go_wp2
  go_loopg [4, 5, 8] 17 (fun kq v4 v5 v8 w' => ∃ (i : Nat) (B : Int) (O : Bool), v4 = .int .i64 B ∧ v5 = .bool O ∧ v8 = .int .i64 (i : Int) ∧ Aside0 (kq + i = 17 ∧ i ≤ 16) ∧ Aside0 (sfold (fun i => left s i) i = (B, O)) ∧ Aside0 (Drawn0 w w'))
  case atStart => exact ⟨0, 0, false, rfl, rfl, rfl, ⟨by omega⟩, ⟨rfl⟩, ⟨Drawn0.refl _⟩⟩
  case round =>
    obtain ⟨i, B, O, rfl, rfl, rfl, HK, HF, HD⟩ := hrel
    by_cases hi : i < 16
    · have HL := Aside0.mk fun (w1 : World) (d : Drawn0 w w1) => left_f w1 g (i : Int) s (HA.out.drawn d) HS.out
      have HN := Aside0.mk (sfold_succ (fun i => left s i) i)
      generalize hL : left s (i : Int) = L at HL
      have HLe := Aside0.mk hL
      clear hL
      have d1 : decide ((i : Int) < 16) = true := decide_eq_true (by omega)
      have dw : wrap64 ((i : Int) + 1) = ((i + 1 : Nat) : Int) := by rw [w64 (by omega) (by omega)]; omega
      have HI := Aside0.mk hi
      clear hi
      by_cases c1 : 0 < L
      · have b1 : decide (0 < L) = true := decide_eq_true c1
        cases O with
        | false =>
          have HR := Aside0.mk (show sfold (fun i => left s i) (i + 1) = (L, true) by rw [HN.out, HF.out]; unfold sstep; simp only [HLe.out]; rw [if_pos ⟨c1, .inl trivial⟩])
          clear c1
          go_wp2_with (go_at_call 10; refine (HL.out _ (by first | exact HD.out | exact drawn_trans HD.out ⟨_, rfl⟩)).mono ?_; rintro e w' ⟨rfl, ⟨nd, rfl⟩⟩)
          go_roundg (gk - 1)
          case measure => have := HK.out; omega
          case rel => exact ⟨i + 1, L, true, rfl, rfl, (by first | rw [dw] | simp), ⟨by have := HK.out; have := HI.out; omega⟩, HR, ⟨drawn_trans HD.out ⟨_, rfl⟩⟩⟩
        | true =>
          by_cases c2 : L < B
          · have b2 : decide (L < B) = true := decide_eq_true c2
            have HR := Aside0.mk (show sfold (fun i => left s i) (i + 1) = (L, true) by rw [HN.out, HF.out]; unfold sstep; simp only [HLe.out]; rw [if_pos ⟨c1, .inr c2⟩])
            clear c1 c2
            go_wp2_with (go_at_call 10; refine (HL.out _ (by first | exact HD.out | exact drawn_trans HD.out ⟨_, rfl⟩)).mono ?_; rintro e w' ⟨rfl, ⟨nd, rfl⟩⟩)
            go_roundg (gk - 1)
            case measure => have := HK.out; omega
            case rel => exact ⟨i + 1, L, true, rfl, rfl, (by first | rw [dw] | simp), ⟨by have := HK.out; have := HI.out; omega⟩, HR, ⟨drawn_trans HD.out ⟨_, rfl⟩⟩⟩
          · have b2 : decide (L < B) = false := decide_eq_false c2
            have HR := Aside0.mk (show sfold (fun i => left s i) (i + 1) = (B, true) by rw [HN.out, HF.out]; unfold sstep; simp only [HLe.out]; rw [if_neg (by rintro ⟨_, h | h⟩; (cases h); exact c2 h)])
            clear c1 c2
            go_wp2_with (go_at_call 10; refine (HL.out _ (by first | exact HD.out | exact drawn_trans HD.out ⟨_, rfl⟩)).mono ?_; rintro e w' ⟨rfl, ⟨nd, rfl⟩⟩)
            go_roundg (gk - 1)
            case measure => have := HK.out; omega
            case rel => exact ⟨i + 1, B, true, rfl, rfl, (by first | rw [dw] | simp), ⟨by have := HK.out; have := HI.out; omega⟩, HR, ⟨drawn_trans HD.out ⟨_, rfl⟩⟩⟩
      · have b1 : decide (0 < L) = false := decide_eq_false c1
        have HR := Aside0.mk (show sfold (fun i => left s i) (i + 1) = (B, O) by rw [HN.out, HF.out]; unfold sstep; simp only [HLe.out]; rw [if_neg (fun h => c1 h.1)])
        clear c1
        go_wp2_with (go_at_call 10; refine (HL.out _ (by first | exact HD.out | exact drawn_trans HD.out ⟨_, rfl⟩)).mono ?_; rintro e w' ⟨rfl, ⟨nd, rfl⟩⟩)
        go_roundg (gk - 1)
        case measure => have := HK.out; omega
        case rel => exact ⟨i + 1, B, O, rfl, rfl, (by first | rw [dw] | simp), ⟨by have := HK.out; have := HI.out; omega⟩, HR, ⟨drawn_trans HD.out ⟨_, rfl⟩⟩⟩
    · obtain rfl : i = 16 := by have := HK.out; omega
      have HF' := Aside0.mk (show soon s = (B, O) from HF.out)
      clear hi
      go_wp2
      go_ret2
      exact ⟨ret_two HF'.out, HD.out⟩
def rstep (x : Nat → Int) (b : Int) (i : Nat) : Int := if 0 < x i ∧ (b = 0 ∨ x i < b) then x i else b
def rfold (x : Nat → Int) (i : Nat) : Int := (List.range i).foldl (rstep x) 0
theorem rfold_succ (x : Nat → Int) (i : Nat) : rfold x (i + 1) = rstep x (rfold x i) i := by unfold rfold; rw [List.range_succ, List.foldl_append]; rfl
def rsoon (x : Nat → Int) : Int := rfold x 16
theorem rsoon_f (w : World) (g : Nat) (x : Nat → Int) (h : Ref w g x) :
    Calls Tryd.prog 22 #[.pointer (some ⟨g, 0, none⟩)] w fun e w' => e = .returned (.int .i64 (rsoon x)) ∧ Drawn0 w w' := by
  have HA := Aside0.mk h
  clear h
  go_enter Tryd.func22, Tryd.ntmps22
  go_wp2
  go_loopg [3, 4] 17 (fun kq v3 v4 w' => ∃ (i : Nat) (B : Int), v3 = .int .i64 B ∧ v4 = .int .i64 (i : Int) ∧ Aside0 (kq + i = 17 ∧ i ≤ 16) ∧ Aside0 (rfold x i = B) ∧ Aside0 (Drawn0 w w'))
  case atStart => exact ⟨0, 0, rfl, rfl, ⟨by omega⟩, ⟨rfl⟩, ⟨Drawn0.refl _⟩⟩
  case round =>
    obtain ⟨i, B, rfl, rfl, HK, HF, HD⟩ := hrel
    by_cases hi : i < 16
    · have hc := (HA.out.drawn HD.out).cell i hi
      have HN := Aside0.mk (rfold_succ x i)
      generalize hL : x i = L at hc
      have HLe := Aside0.mk hL
      clear hL
      have d1 : decide ((i : Int) < 16) = true := decide_eq_true (by omega)
      have d3 : 0 ≤ (i : Int) := by omega
      have d4 : (i : Int) < 16 := by omega
      have dw : wrap64 ((i : Int) + 1) = ((i + 1 : Nat) : Int) := by rw [w64 (by omega) (by omega)]; omega
      have HI := Aside0.mk hi
      clear hi
      by_cases c1 : 0 < L
      · have b1 : decide (0 < L) = true := decide_eq_true c1
        by_cases c0 : B = 0
        · have b0 : (B == 0) = true := beq_iff_eq.2 c0
          have HR := Aside0.mk (show rfold x (i + 1) = L by rw [HN.out, HF.out]; unfold rstep; simp only [HLe.out]; rw [if_pos ⟨c1, .inl c0⟩])
          subst c0
          clear c1
          go_wp2
          all_goals (try go_region)
          all_goals (try go_wp2)
          go_roundg (gk - 1)
          case measure => have := HK.out; omega
          case rel => exact ⟨i + 1, L, rfl, (by first | rw [dw] | simp), ⟨by have := HK.out; have := HI.out; omega⟩, HR, ⟨by first | exact HD.out | exact drawn_trans HD.out ⟨_, rfl⟩⟩⟩
        · have b0 : (B == 0) = false := beq_eq_false_iff_ne.2 c0
          have e0 : (B = 0) = False := eq_false c0
          by_cases c2 : L < B
          · have b2 : decide (L < B) = true := decide_eq_true c2
            have HR := Aside0.mk (show rfold x (i + 1) = L by rw [HN.out, HF.out]; unfold rstep; simp only [HLe.out]; rw [if_pos ⟨c1, .inr c2⟩])
            clear c1 c2 c0
            go_wp2
            all_goals (try go_region)
            all_goals (try go_wp2)
            go_roundg (gk - 1)
            case measure => have := HK.out; omega
            case rel => exact ⟨i + 1, L, rfl, (by first | rw [dw] | simp), ⟨by have := HK.out; have := HI.out; omega⟩, HR, ⟨by first | exact HD.out | exact drawn_trans HD.out ⟨_, rfl⟩⟩⟩
          · have b2 : decide (L < B) = false := decide_eq_false c2
            have HR := Aside0.mk (show rfold x (i + 1) = B by rw [HN.out, HF.out]; unfold rstep; simp only [HLe.out]; rw [if_neg (by rintro ⟨_, h | h⟩; (exact c0 h); exact c2 h)])
            clear c1 c2 c0
            go_wp2
            all_goals (try go_region)
            all_goals (try go_wp2)
            go_roundg (gk - 1)
            case measure => have := HK.out; omega
            case rel => exact ⟨i + 1, B, rfl, (by first | rw [dw] | simp), ⟨by have := HK.out; have := HI.out; omega⟩, HR, ⟨by first | exact HD.out | exact drawn_trans HD.out ⟨_, rfl⟩⟩⟩
      · have b1 : decide (0 < L) = false := decide_eq_false c1
        have HR := Aside0.mk (show rfold x (i + 1) = B by rw [HN.out, HF.out]; unfold rstep; simp only [HLe.out]; rw [if_neg (fun h => c1 h.1)])
        clear c1
        go_wp2
        all_goals (try go_region)
        all_goals (try go_wp2)
        go_roundg (gk - 1)
        case measure => have := HK.out; omega
        case rel => exact ⟨i + 1, B, rfl, (by first | rw [dw] | simp), ⟨by have := HK.out; have := HI.out; omega⟩, HR, ⟨by first | exact HD.out | exact drawn_trans HD.out ⟨_, rfl⟩⟩⟩
    · obtain rfl : i = 16 := by have := HK.out; omega
      have HF' := Aside0.mk (show rsoon x = B from HF.out)
      clear hi
      go_wp2
      go_ret
      exact ⟨ret_int HF'.out.symm, HD.out⟩
end Go.Proofs.YtbpjcgahdgpmhaaDoor.Whl

/- The document's wheel ticks: the walk. Conditions: those that each statement names. -/
import Derived.Test.YtbpjcgahdgpmhaaDoorWheel2
namespace Go.Proofs.YtbpjcgahdgpmhaaDoor.Whl
open Go.RowKit Go.Proofs.YtbpjcgahdgpmhaaDoorW.PrintWords Go.Proofs.YtbpjcgahdgpmhaaDoorW.PrintLast Go.Proofs.YtbpjcgahdgpmhaaDoorW.PrintMore
set_option linter.unusedVariables false
theorem info3 : (Tryd.prog.info? 3).map (fun i => (i.zero, i.size, i.bytes)) = some (some (.int .i64 0), 1, 8) := by kernel_rfl
abbrev Out (w : World) (B : Nat) (v : Value) (xs : List Int) : Prop := Kd.R (Kd.int .i64) 3 w B (fun k => B ≤ k) v xs
theorem Turn.own {g : Nat} {a b c : World} (h : Turn g a b) (k : Below a.heap.size b c) : Turn g a c :=
  ⟨k.os.trans h.os, k.tape.trans h.tape, k.output.trans h.output, Nat.le_trans h.size k.size, fun i hi hg => (k.block i hi).trans (h.block i hi hg)⟩
theorem Ref.own {w w' : World} {g B : Nat} {x : Nat → Int} (h : Ref w g x) (k : Below B w w') (hg : g < B) : Ref w' g x :=
  ⟨fun j hj => (k.cell hg).trans (h.cell j hj), fun j hj => (k.frozen hg).trans (h.live j hj)⟩
theorem At.own {w w' : World} {g B : Nat} {s : Wh} (h : At w g s) (k : Below B w w') (hg : g < B) : At w' g s :=
  ⟨(k.cell hg).trans h.now, fun j hj => (k.cell hg).trans (h.due j hj), (k.cell hg).trans h.set, fun j hj => (k.cell hg).trans (h.spoke j hj), fun j hj => (k.frozen hg).trans (h.live j hj)⟩
theorem Out.put {w : World} {B g : Nat} {v : Value} {xs : List Int} (h : Out w B v xs) (hg : g < B) (j : Nat) (u : Value) : Out (w.setCell ⟨g, j, none⟩ u) B v xs := Kd.R_far h (fun k hk e => by simp only at e; omega) u
theorem Out.drawn {w w' : World} {B : Nat} {v : Value} {xs : List Int} (h : Out w B v xs) (d : Drawn0 w w') : Out w' B v xs := by
  obtain ⟨n, rfl⟩ := d
  exact Kd.R_drewN h n
def dec (v : Int) : Int := if 0 < v then v - 1 else v
def rst (x : Nat → Int) (i : Nat) : Nat → Int := fun j => if j < i then dec (x j) else x j
def rout (x : Nat → Int) (i : Nat) : List Int := ((List.range i).filter fun j => decide (x j = 1)).map fun (j : Nat) => (j : Int)
theorem rout_succ (x : Nat → Int) (i : Nat) : rout x (i + 1) = rout x i ++ if x i = 1 then [(i : Int)] else [] := by
  unfold rout
  rw [List.range_succ, List.filter_append, List.map_append]
  congr 1
  by_cases h : x i = 1 <;> simp [h]
theorem rout_len (x : Nat → Int) (i : Nat) : (rout x i).length ≤ i := by
  have := List.length_filter_le (fun j => decide (x j = 1)) (List.range i)
  simp [rout] at *
  exact this
theorem rst_same (x : Nat → Int) (i : Nat) (h : ¬ 0 < x i) : rst x (i + 1) = rst x i := by
  funext j
  unfold rst
  by_cases h1 : j < i
  · rw [if_pos h1, if_pos (by omega)]
  · by_cases h2 : j = i
    · subst h2; rw [if_pos (by omega), if_neg h1]; unfold dec; rw [if_neg h]
    · rw [if_neg h1, if_neg (by omega)]
theorem rst_put (x : Nat → Int) (i : Nat) (h : 0 < x i) : rst x (i + 1) = up (rst x i) i (x i - 1) := by
  funext j
  simp only [rst, up]
  by_cases h1 : j < i
  · rw [if_pos (by omega), if_neg (by omega), if_pos h1]
  · by_cases h2 : j = i
    · subst h2; rw [if_pos (by omega), if_pos rfl]; unfold dec; rw [if_pos h]
    · rw [if_neg (by omega), if_neg h2, if_neg h1]
theorem rst_at (x : Nat → Int) (i : Nat) : rst x i i = x i := by unfold rst; rw [if_neg (Nat.lt_irrefl _)]
theorem rtick_f (w : World) (g : Nat) (x : Nat → Int) (h : Ref w g x) (hx : ∀ j, j < 16 → 0 ≤ x j ∧ x j ≤ 10000) :
    Calls Tryd.prog 15 #[.pointer (some ⟨g, 0, none⟩)] w fun e w' => ∃ v, e = .returned v ∧ Out w' w.heap.size v (rout x 16) ∧ Ref w' g (rst x 16) ∧ Turn g w w' := by
  have HG := Aside0.mk h.in
  have h0 : Ref w g (rst x 0) := by
    have : rst x 0 = x := by funext j; unfold rst; rw [if_neg (Nat.not_lt_zero _)]
    rw [this]; exact h
  have HA := Aside0.mk h0
  have HX := Aside0.mk hx
  clear h hx h0
  go_enter Tryd.func15, Tryd.ntmps15
  go_wp2
  go_loopg [3, 4] 17 (fun kq v2 v3 w' => ∃ (i : Nat), v3 = .int .i64 (i : Int) ∧ Aside0 (kq + i = 17 ∧ i ≤ 16) ∧ Aside0 (Out w' w.heap.size v2 (rout x i)) ∧ Aside0 (Ref w' g (rst x i)) ∧ Aside0 (Turn g w w'))
  case atStart => exact ⟨0, rfl, ⟨by omega⟩, ⟨by exact Kd.R_nil _ _ _ _ _⟩, HA, ⟨Turn.refl _ _⟩⟩
  case round =>
    obtain ⟨i, rfl, HK, HO, HR, HT⟩ := hrel
    by_cases hi : i < 16
    · have hc := HR.out.cell i hi
      have hf := HR.out.live i hi
      rw [rst_at] at hc
      have d1 : decide ((i : Int) < 16) = true := decide_eq_true (by omega)
      have d3 : 0 ≤ (i : Int) := by omega
      have d4 : (i : Int) < 16 := by omega
      have dw : wrap64 ((i : Int) + 1) = ((i + 1 : Nat) : Int) := by rw [w64 (by omega) (by omega)]; omega
      have HI := Aside0.mk hi
      have HB0 := Aside0.mk (HX.out i hi)
      clear hi
      by_cases c1 : x i = 1
      · have HN := Aside0.mk (show rout x (i + 1) = rout x i ++ [(i : Int)] by rw [rout_succ, if_pos c1])
        have HS := Aside0.mk (show rst x (i + 1) = up (rst x i) i 0 by rw [rst_put x i (by omega), c1]; rfl)
        have HX1 := Aside0.mk c1
        rw [c1] at hc
        clear c1
        obtain ⟨Ao, co, eo⟩ := Kd.R_slice HO.out
        subst eo
        go_wp2_with ((with_reducible refine gate_builtin (b := .append) (xs := #[.tmp 15, .tmp 17]) rfl ?_); at_builtin; (refine Kd.R_append (Kd.int .i64) (w0 := wr) w.heap.size rfl (.tmp 15) (.tmp 17) 31 3 (.int .i64 0) 8 rfl Tryd.underlying31 info3 rfl (by decide) (by omega) (.slice Ao (rout x i).length co) (rout x i) (i : Int) [.int .i64 (i : Int)] (fun k => w.heap.size ≤ k) (fun _ => False) rfl rfl ?aP (fun _ hk => hk.elim) ?aF ?aO ?aB ?aS ?aL ?_); (case aP => exact rfl); (case aB => exact Below.refl _ _); (case aF => exact fun k hk => Nat.le_trans HT.out.size hk); (case aO => exact HO.out); (case aS => exact HT.out.size); (case aL => have := rout_len x i; have := HI.out; omega); (intro v1 w1 ho hb hg hat); (rw [← HN.out] at ho; have n0_ := Aside0.mk ho; have n1_ := Aside0.mk (HR.out.own hb HG.out); have n2_ := Aside0.mk (HT.out.own hb); clear HO HR HT; have HO := n0_; have HR := n1_; have HT := n2_; clear n0_ n1_ n2_; have hc := HR.out.cell i HI.out; have hf := HR.out.live i HI.out; rw [rst_at, HX1.out] at hc; clear ho hb hg hat))
        go_region
        all_goals go_wp2
        go_roundg (gk - 1)
        case measure => have := HK.out; omega
        case rel => exact ⟨i + 1, by first | rw [dw] | simp, ⟨by have := HK.out; have := HI.out; omega⟩, ⟨Out.drawn (Out.put HO.out HG.out _ _) ⟨1, rfl⟩⟩, ⟨by rw [HS.out]; exact (HR.out.put i HI.out 0).drawn ⟨1, rfl⟩⟩, ⟨(HT.out.setCell _ rfl _).drew⟩⟩
      · have HN := Aside0.mk (show rout x (i + 1) = rout x i by rw [rout_succ, if_neg c1, List.append_nil])
        have b1 : (x i == 1) = false := beq_eq_false_iff_ne.2 c1
        by_cases c2 : 0 < x i
        · have b2 : decide (0 < x i) = true := decide_eq_true c2
          have HS := Aside0.mk (show rst x (i + 1) = up (rst x i) i (x i - 1) from rst_put x i c2)
          have dv : wrap64 (x i - 1) = x i - 1 := w64 (by omega) (by have := HB0.out; omega)
          generalize x i = V at *
          clear c1 c2
          go_wp2
          go_region
          all_goals go_wp2
          go_roundg (gk - 1)
          case measure => have := HK.out; omega
          case rel => exact ⟨i + 1, by first | rw [dw] | simp, ⟨by have := HK.out; have := HI.out; omega⟩, ⟨by rw [HN.out]; exact Out.drawn (Out.put HO.out HG.out _ _) ⟨1, rfl⟩⟩, ⟨by rw [HS.out, ← dv]; exact (HR.out.put i HI.out _).drawn ⟨1, rfl⟩⟩, ⟨(HT.out.setCell _ rfl _).drew⟩⟩
        · have b2 : decide (0 < x i) = false := decide_eq_false c2
          have HS := Aside0.mk (show rst x (i + 1) = rst x i from rst_same x i c2)
          generalize x i = V at *
          clear c1 c2
          go_wp2
          go_roundg (gk - 1)
          case measure => have := HK.out; omega
          case rel => exact ⟨i + 1, by first | rw [dw] | simp, ⟨by have := HK.out; have := HI.out; omega⟩, ⟨by rw [HN.out]; exact HO.out⟩, ⟨by rw [HS.out]; exact HR.out⟩, HT⟩
    · obtain rfl : i = 16 := by have := HK.out; omega
      clear hi
      go_wp2
      go_ret
      exact ⟨_, rfl, HO.out, HR.out, HT.out⟩
end Go.Proofs.YtbpjcgahdgpmhaaDoor.Whl

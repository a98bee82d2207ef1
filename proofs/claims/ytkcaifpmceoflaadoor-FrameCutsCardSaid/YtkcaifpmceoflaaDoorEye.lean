/- An eye in memory: the text that it reads, and where it is; the walks through its methods where enough is left. Conditions: those that each statement names. -/
import Derived.Test.YtkcaifpmceoflaaDoorPen
import Derived.BigRegion
namespace Go.Proofs.YtkcaifpmceoflaaDoor.Frm
open Go.RowKit Go.Proofs.YtkcaifpmceoflaaDoorW.PrintWords Go.Proofs.YtkcaifpmceoflaaDoorW.PrintLast Go.Proofs.YtkcaifpmceoflaaDoorW.PrintMore
set_option linter.unusedVariables false
def Eye (w : World) (g : Nat) (s : ByteArray) (at_ : Nat) : Prop := w.heap[g]? = some (.cells #[.string s, .int .i64 (at_ : Int), .bool false] 100 (0, 0))
theorem eye_cells {w : World} {g : Nat} {s : ByteArray} {p : Nat} (h : Eye w g s p) : w.cell? ⟨g, 0, none⟩ = some (.string s) ∧ w.cell? ⟨g, 1, none⟩ = some (.int .i64 (p : Int)) ∧ w.cell? ⟨g, 2, none⟩ = some (.bool false) ∧ ∀ j, w.frozen? ⟨g, j, none⟩ = false :=
  ⟨blk_cell h 0, blk_cell h 1, blk_cell h 2, fun j => by
    unfold Eye at h
    simp only [World.frozen?, h]
    simp⟩
/-- But for block g the world w' is as w was; more blocks may lie behind. -/
structure Turn (g : Nat) (w w' : World) : Prop where
  os : w'.os = w.os
  tape : w'.tape = w.tape
  output : w'.output = w.output
  size : w.heap.size ≤ w'.heap.size
  block : ∀ k, k < w.heap.size → k ≠ g → w'.heap[k]? = w.heap[k]?
theorem Turn.refl (g : Nat) (w : World) : Turn g w w := ⟨rfl, rfl, rfl, Nat.le_refl _, fun _ _ _ => rfl⟩
theorem Turn.trans {g : Nat} {a b c : World} (h : Turn g a b) (k : Turn g b c) : Turn g a c :=
  ⟨k.os.trans h.os, k.tape.trans h.tape, k.output.trans h.output, Nat.le_trans h.size k.size, fun i hi hg => (k.block i (Nat.lt_of_lt_of_le hi h.size) hg).trans (h.block i hi hg)⟩
theorem Turn.below {g B : Nat} {w w' : World} (h : Turn g w w') (hB : B ≤ g) (hB' : B ≤ w.heap.size) : Below B w w' :=
  ⟨h.os, h.tape, h.output, h.size, fun k hk => h.block k (by omega) (by omega)⟩
theorem Turn.of_below {g : Nat} {w w' : World} (h : Below w.heap.size w w') : Turn g w w' := ⟨h.os, h.tape, h.output, h.size, fun k hk _ => h.block k hk⟩
theorem Turn.set {g : Nat} {w : World} (j : Nat) (u : Value) : Turn g w (w.setCell ⟨g, j, none⟩ u) :=
  ⟨rfl, rfl, rfl, by simp [World.setCell], fun k hk hg => Below.heap_setCell _ _ _ _ hg⟩
theorem Turn.drew {g : Nat} {w : World} : Turn g w w.drew := ⟨rfl, rfl, rfl, Nat.le_refl _, fun _ _ _ => rfl⟩
theorem set_block {w : World} {b j : Nat} {cs : Array Value} {u : Value} {t : TypeId} {fr : Nat × Nat} (h : w.heap[b]? = some (.cells cs t fr)) : (w.setCell ⟨b, j, none⟩ u).heap[b]? = some (.cells (cs.setIfInBounds j u) t fr) := by
  have hlt := lt_of_block h
  have h' : w.heap[b] = .cells cs t fr := by simpa [Array.getElem?_eq_getElem hlt] using h
  show (w.heap.modify b _)[b]? = _
  rw [Array.getElem?_eq_getElem (by simpa using hlt), Array.getElem_modify_self, h']
  rfl
theorem eye_put {w : World} {g : Nat} {s : ByteArray} {p : Nat} (q : Nat) (h : Eye w g s p) : Eye ((w.setCell ⟨g, 2, none⟩ (.bool false)).setCell ⟨g, 1, none⟩ (.int .i64 (q : Int))) g s q :=
  set_block (set_block h)
set_option maxHeartbeats 1000000 in
theorem eye_Take (w : World) (g : Nat) (s : ByteArray) (p m : Nat) (h : Eye w g s p) (hm : p + m ≤ s.size) (hs : s.size ≤ 1000000) :
    Calls Tryd.prog 54 #[.pointer (some ⟨g, 0, none⟩), .int .i64 (m : Int)] w fun e w' => e = .returned (.string (s.extract p (p + m))) ∧ Eye w' g s (p + m) ∧ Turn g w w' := by
  obtain ⟨c0, c1, c2, hf⟩ := eye_cells h
  have f1 := hf 1
  have f2 := hf 2
  have H := Aside0.mk h
  have y1 : (s.size : Int) ≤ 1000000 := by omega
  have y2 : (p : Int) + m ≤ (s.size : Int) := by omega
  have y3 : 0 ≤ (m : Int) := by omega
  have y4 : 0 ≤ (p : Int) := by omega
  have d1 : decide ((m : Int) < 0) = false := decide_eq_false (by omega)
  have d2 : decide ((s.size : Int) - (p : Int) < (m : Int)) = false := decide_eq_false (by omega)
  have e0 : IntKind.i64.wrap (p : Int) = (p : Int) := by rw [IntKind.wrap_i64]; omega
  have e1 : ((p : Int) + m).toNat = p + m := by omega
  have hsl : ∀ W : World, (Instr.slice 9 (.string s) (some (.int .i64 (IntKind.i64.wrap (p : Int)))) (some (.int .i64 ((p : Int) + m))) none).run Tryd.prog W = .ok (.string (s.extract p (p + m))) W := fun W => by
    rw [e0, run_slice_string W 9 s .i64 .i64 (p : Int) ((p : Int) + m) Tryd.underlying9 (by omega) (by omega) (by omega), e1, Int.toNat_natCast]
  clear hf h hm hs e0 e1
  go_enter Tryd.func54, Tryd.ntmps54
  go_wp2
  go_region
  all_goals go_wp2
  all_goals go_region
  all_goals go_wp2
  all_goals go_ret
  all_goals exact ⟨rfl, by rw [show ((p : Int) + m) = ((p + m : Nat) : Int) by omega]; exact eye_put (p + m) H.out, (((Turn.set 2 _).trans (Turn.set 1 _)).trans Turn.drew).trans Turn.drew⟩
theorem eye_new (w : World) (s : ByteArray) :
    Calls Tryd.prog 49 #[.string s] w fun e w' => ∃ g, e = .returned (.pointer (some ⟨g, 0, none⟩)) ∧ w.heap.size ≤ g ∧ g < w'.heap.size ∧ Eye w' g s 0 ∧ Below w.heap.size w w' := by
  go_enter Tryd.func49, Tryd.ntmps49
  go_wp2
  go_ret
  refine ⟨w.heap.size, rfl, Nat.le_refl _, ?_, ?_, (Below.refl _ w).alloc (Nat.le_refl _) _⟩
  · rw [size_alloc_]; omega
  · unfold Eye
    rw [show (w.alloc (.cells #[.string s, .int .i64 0, .bool false] 100)).heap = w.heap.push (.cells #[.string s, .int .i64 0, .bool false] 100) from rfl, Array.getElem?_push, if_pos rfl]
    rfl
theorem eye_Blind (w : World) (g : Nat) (s : ByteArray) (p : Nat) (h : Eye w g s p) :
    Calls Tryd.prog 67 #[.pointer (some ⟨g, 0, none⟩)] w fun e w' => e = .returned (.bool false) ∧ w' = w := by
  obtain ⟨c0, c1, c2, hf⟩ := eye_cells h
  clear hf h
  go_enter Tryd.func67, Tryd.ntmps67
  go_wp2
  go_ret
  exact ⟨rfl, rfl⟩
theorem eye_Left (w : World) (g : Nat) (s : ByteArray) (p m : Nat) (h : Eye w g s p) (hm : p + m = s.size) (hs : s.size ≤ 1000000) :
    Calls Tryd.prog 55 #[.pointer (some ⟨g, 0, none⟩)] w fun e w' => e = .returned (.int .i64 (m : Int)) ∧ Eye w' g s p ∧ Turn g w w' := by
  obtain ⟨c0, c1, c2, hf⟩ := eye_cells h
  have H := Aside0.mk h
  have y1 : (s.size : Int) ≤ 1000000 := by omega
  have y4 : 0 ≤ (p : Int) := by omega
  have HM := Aside0.mk (show (s.size : Int) - (p : Int) = (m : Int) by omega)
  have y5 : (p : Int) ≤ s.size := by omega
  clear hf h hm hs
  go_enter Tryd.func55, Tryd.ntmps55
  go_wp2_with (go_at_call 67; refine (eye_Blind _ g s p H.out).mono ?_; rintro e w' ⟨rfl, rfl⟩)
  go_region
  all_goals go_wp2
  all_goals go_ret
  all_goals exact ⟨by simpa using HM.out, H.out, Turn.drew⟩
/-- A number that is read, byte by byte. -/
def num (l : List UInt8) : Nat := l.foldl (fun n c => n * 256 + c.toNat) 0
theorem num_snoc (l : List UInt8) (c : UInt8) : num (l ++ [c]) = num l * 256 + c.toNat := by unfold num; rw [List.foldl_append]; rfl
theorem num_from : ∀ (l : List UInt8) (n : Nat), l.foldl (fun n c => n * 256 + c.toNat) n < (n + 1) * 256 ^ l.length
  | [], n => by simp
  | c :: l, n => by
    have h := num_from l (n * 256 + c.toNat)
    have hc := c.toNat_lt
    simp only [List.foldl_cons, List.length_cons]
    refine Nat.lt_of_lt_of_le h ?_
    rw [Nat.pow_succ, Nat.mul_comm (256 ^ l.length) 256, ← Nat.mul_assoc]
    exact Nat.mul_le_mul_right _ (by omega)
theorem num_lt (l : List UInt8) : num l < 256 ^ l.length := by
  have h := num_from l 0
  simpa [num] using h
theorem num_take (l : List UInt8) (k : Nat) (h : k < l.length) : num (l.take (k + 1)) = num (l.take k) * 256 + l[k].toNat := by
  rw [List.take_succ_eq_append_getElem h, num_snoc]
theorem or8 (n c : Nat) (hn : n < 16777216) (hc : c < 256) : Go.bits .or .u32 ((n : Int) * 256) (c : Int) = ((n * 256 + c : Nat) : Int) := by
  rw [show (n : Int) * 256 = ((n * 256 : Nat) : Int) by omega]
  have h := (bits_nat .u32 32 (by decide) (fun n h0 h1 => by rw [IntKind.wrap_u32]; omega) (n * 256) c (by omega) (by omega)).2
  rw [h]
  congr 1
  have e : n * 256 = n <<< 8 := by rw [Nat.shiftLeft_eq]
  rw [e, Nat.shiftLeft_add_eq_or_of_lt (by omega)]
end Go.Proofs.YtkcaifpmceoflaaDoor.Frm

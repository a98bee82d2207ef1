/- An eye in memory: the text that it reads, and where it is; the walks through its methods where enough is left. Conditions: those that each statement names. An eye reads numbers, and an epoch: the walks. Conditions: those that each statement names. -/
import Derived.Test.YtkcaifpmceoflaaDoorPen
import Derived.BigRegion
namespace Go.Proofs.YtkcaifpmceoflaaDoor.Frm
open Go.RowKit Go.Proofs.YtkcaifpmceoflaaDoorW.PrintWords Go.Proofs.YtkcaifpmceoflaaDoorW.PrintLast Go.Proofs.YtkcaifpmceoflaaDoorW.PrintMore
set_option linter.unusedVariables false
def Eye (w : World) (g : Nat) (s : ByteArray) (at_ : Nat) : Prop := w.heap[g]? = some (.cells #[.string s, .int .i64 (at_ : Int), .bool false] 100 (0, 0))
theorem eye_cells {w : World} {g : Nat} {s : ByteArray} {p : Nat} (h : Eye w g s p) : w.cell? ⟨g, 0, none⟩ = some (.string s) ∧ w.cell? ⟨g, 1, none⟩ = some (.int .i64 (p : Int)) ∧ w.cell? ⟨g, 2, none⟩ = some (.bool false) ∧ ∀ j, w.frozen? ⟨g, j, none⟩ = false :=
  ⟨blk_cell h 0, blk_cell h 1, blk_cell h 2, fun j => by
    unfold Eye at h
    simp only [World.frozen?, h]
    simp⟩
/-- But for block g the world w' is as w was; more blocks may lie behind. -/
structure Turn (g : Nat) (w w' : World) : Prop where
  os : w'.os = w.os
  tape : w'.tape = w.tape
  output : w'.output = w.output
  size : w.heap.size ≤ w'.heap.size
  block : ∀ k, k < w.heap.size → k ≠ g → w'.heap[k]? = w.heap[k]?
theorem Turn.refl (g : Nat) (w : World) : Turn g w w := ⟨rfl, rfl, rfl, Nat.le_refl _, fun _ _ _ => rfl⟩
theorem Turn.trans {g : Nat} {a b c : World} (h : Turn g a b) (k : Turn g b c) : Turn g a c :=
  ⟨k.os.trans h.os, k.tape.trans h.tape, k.output.trans h.output, Nat.le_trans h.size k.size, fun i hi hg => (k.block i (Nat.lt_of_lt_of_le hi h.size) hg).trans (h.block i hi hg)⟩
theorem Turn.below {g B : Nat} {w w' : World} (h : Turn g w w') (hB : B ≤ g) (hB' : B ≤ w.heap.size) : Below B w w' :=
  ⟨h.os, h.tape, h.output, h.size, fun k hk => h.block k (by omega) (by omega)⟩
theorem Turn.of_below {g : Nat} {w w' : World} (h : Below w.heap.size w w') : Turn g w w' := ⟨h.os, h.tape, h.output, h.size, fun k hk _ => h.block k hk⟩
theorem Turn.set {g : Nat} {w : World} (j : Nat) (u : Value) : Turn g w (w.setCell ⟨g, j, none⟩ u) :=
  ⟨rfl, rfl, rfl, by simp [World.setCell], fun k hk hg => Below.heap_setCell _ _ _ _ hg⟩
theorem Turn.drew {g : Nat} {w : World} : Turn g w w.drew := ⟨rfl, rfl, rfl, Nat.le_refl _, fun _ _ _ => rfl⟩
theorem set_block {w : World} {b j : Nat} {cs : Array Value} {u : Value} {t : TypeId} {fr : Nat × Nat} (h : w.heap[b]? = some (.cells cs t fr)) : (w.setCell ⟨b, j, none⟩ u).heap[b]? = some (.cells (cs.setIfInBounds j u) t fr) := by
  have hlt := lt_of_block h
  have h' : w.heap[b] = .cells cs t fr := by simpa [Array.getElem?_eq_getElem hlt] using h
  show (w.heap.modify b _)[b]? = _
  rw [Array.getElem?_eq_getElem (by simpa using hlt), Array.getElem_modify_self, h']
  rfl
theorem eye_put {w : World} {g : Nat} {s : ByteArray} {p : Nat} (q : Nat) (h : Eye w g s p) : Eye ((w.setCell ⟨g, 2, none⟩ (.bool false)).setCell ⟨g, 1, none⟩ (.int .i64 (q : Int))) g s q :=
  set_block (set_block h)
set_option maxHeartbeats 1000000 in
theorem eye_Take (w : World) (g : Nat) (s : ByteArray) (p m : Nat) (h : Eye w g s p) (hm : p + m ≤ s.size) (hs : s.size ≤ 1000000) :
    Calls Tryd.prog 54 #[.pointer (some ⟨g, 0, none⟩), .int .i64 (m : Int)] w fun e w' => e = .returned (.string (s.extract p (p + m))) ∧ Eye w' g s (p + m) ∧ Turn g w w' := by
  obtain ⟨c0, c1, c2, hf⟩ := eye_cells h
  have f1 := hf 1
  have f2 := hf 2
  have H := Aside0.mk h
  have y1 : (s.size : Int) ≤ 1000000 := by omega
  have y2 : (p : Int) + m ≤ (s.size : Int) := by omega
  have y3 : 0 ≤ (m : Int) := by omega
  have y4 : 0 ≤ (p : Int) := by omega
  have d1 : decide ((m : Int) < 0) = false := decide_eq_false (by omega)
  have d2 : decide ((s.size : Int) - (p : Int) < (m : Int)) = false := decide_eq_false (by omega)
  have e0 : IntKind.i64.wrap (p : Int) = (p : Int) := by rw [IntKind.wrap_i64]; omega
  have e1 : ((p : Int) + m).toNat = p + m := by omega
  have hsl : ∀ W : World, (Instr.slice 9 (.string s) (some (.int .i64 (IntKind.i64.wrap (p : Int)))) (some (.int .i64 ((p : Int) + m))) none).run Tryd.prog W = .ok (.string (s.extract p (p + m))) W := fun W => by
    rw [e0, run_slice_string W 9 s .i64 .i64 (p : Int) ((p : Int) + m) Tryd.underlying9 (by omega) (by omega) (by omega), e1, Int.toNat_natCast]
  clear hf h hm hs e0 e1
  go_enter Tryd.func54, Tryd.ntmps54
  go_wp2
  go_region
  all_goals go_wp2
  all_goals go_region
  all_goals go_wp2
  all_goals go_ret
  all_goals exact ⟨rfl, by rw [show ((p : Int) + m) = ((p + m : Nat) : Int) by omega]; exact eye_put (p + m) H.out, (((Turn.set 2 _).trans (Turn.set 1 _)).trans Turn.drew).trans Turn.drew⟩
theorem eye_new (w : World) (s : ByteArray) :
    Calls Tryd.prog 49 #[.string s] w fun e w' => ∃ g, e = .returned (.pointer (some ⟨g, 0, none⟩)) ∧ w.heap.size ≤ g ∧ g < w'.heap.size ∧ Eye w' g s 0 ∧ Below w.heap.size w w' := by
  go_enter Tryd.func49, Tryd.ntmps49
  go_wp2
  go_ret
  refine ⟨w.heap.size, rfl, Nat.le_refl _, ?_, ?_, (Below.refl _ w).alloc (Nat.le_refl _) _⟩
  · rw [size_alloc_]; omega
  · unfold Eye
    rw [show (w.alloc (.cells #[.string s, .int .i64 0, .bool false] 100)).heap = w.heap.push (.cells #[.string s, .int .i64 0, .bool false] 100) from rfl, Array.getElem?_push, if_pos rfl]
    rfl
theorem eye_Blind (w : World) (g : Nat) (s : ByteArray) (p : Nat) (h : Eye w g s p) :
    Calls Tryd.prog 67 #[.pointer (some ⟨g, 0, none⟩)] w fun e w' => e = .returned (.bool false) ∧ w' = w := by
  obtain ⟨c0, c1, c2, hf⟩ := eye_cells h
  clear hf h
  go_enter Tryd.func67, Tryd.ntmps67
  go_wp2
  go_ret
  exact ⟨rfl, rfl⟩
theorem eye_Left (w : World) (g : Nat) (s : ByteArray) (p m : Nat) (h : Eye w g s p) (hm : p + m = s.size) (hs : s.size ≤ 1000000) :
    Calls Tryd.prog 55 #[.pointer (some ⟨g, 0, none⟩)] w fun e w' => e = .returned (.int .i64 (m : Int)) ∧ Eye w' g s p ∧ Turn g w w' := by
  obtain ⟨c0, c1, c2, hf⟩ := eye_cells h
  have H := Aside0.mk h
  have y1 : (s.size : Int) ≤ 1000000 := by omega
  have y4 : 0 ≤ (p : Int) := by omega
  have HM := Aside0.mk (show (s.size : Int) - (p : Int) = (m : Int) by omega)
  have y5 : (p : Int) ≤ s.size := by omega
  clear hf h hm hs
  go_enter Tryd.func55, Tryd.ntmps55
  go_wp2_with (go_at_call 67; refine (eye_Blind _ g s p H.out).mono ?_; rintro e w' ⟨rfl, rfl⟩)
  go_region
  all_goals go_wp2
  all_goals go_ret
  all_goals exact ⟨by simpa using HM.out, H.out, Turn.drew⟩
/-- A number that is read, byte by byte. -/
def num (l : List UInt8) : Nat := l.foldl (fun n c => n * 256 + c.toNat) 0
theorem num_snoc (l : List UInt8) (c : UInt8) : num (l ++ [c]) = num l * 256 + c.toNat := by unfold num; rw [List.foldl_append]; rfl
theorem num_from : ∀ (l : List UInt8) (n : Nat), l.foldl (fun n c => n * 256 + c.toNat) n < (n + 1) * 256 ^ l.length
  | [], n => by simp
  | c :: l, n => by
    have h := num_from l (n * 256 + c.toNat)
    have hc := c.toNat_lt
    simp only [List.foldl_cons, List.length_cons]
    refine Nat.lt_of_lt_of_le h ?_
    rw [Nat.pow_succ, Nat.mul_comm (256 ^ l.length) 256, ← Nat.mul_assoc]
    exact Nat.mul_le_mul_right _ (by omega)
theorem num_lt (l : List UInt8) : num l < 256 ^ l.length := by
  have h := num_from l 0
  simpa [num] using h
theorem num_take (l : List UInt8) (k : Nat) (h : k < l.length) : num (l.take (k + 1)) = num (l.take k) * 256 + l[k].toNat := by
  rw [List.take_succ_eq_append_getElem h, num_snoc]
theorem or8 (n c : Nat) (hn : n < 16777216) (hc : c < 256) : Go.bits .or .u32 ((n : Int) * 256) (c : Int) = ((n * 256 + c : Nat) : Int) := by
  rw [show (n : Int) * 256 = ((n * 256 : Nat) : Int) by omega]
  have h := (bits_nat .u32 32 (by decide) (fun n h0 h1 => by rw [IntKind.wrap_u32]; omega) (n * 256) c (by omega) (by omega)).2
  rw [h]
  congr 1
  have e : n * 256 = n <<< 8 := by rw [Nat.shiftLeft_eq]
  rw [e, Nat.shiftLeft_add_eq_or_of_lt (by omega)]
end Go.Proofs.YtkcaifpmceoflaaDoor.Frm
namespace Go.Proofs.YtkcaifpmceoflaaDoor.Frm
open Go.RowKit Go.Proofs.YtkcaifpmceoflaaDoorW.PrintWords Go.Proofs.YtkcaifpmceoflaaDoorW.PrintLast Go.Proofs.YtkcaifpmceoflaaDoorW.PrintMore
set_option linter.unusedVariables false
theorem bytes_world (w : World) (y : ByteArray) : Below w.heap.size w (Lib.bytesWorld w 5 y) ∧ ∀ j, j < y.size → (Lib.bytesWorld w 5 y).cell? ⟨w.heap.size, j, none⟩ = some (.int .u8 ((y.data.toList.getD j 0).toNat : Int)) :=
  ⟨⟨rfl, rfl, rfl, by rw [Lib.bytesWorld_size]; omega, fun k hk => Lib.bytesWorld_at_old w 5 y k hk⟩, fun j hj => Lib.bytesWorld_cell w 5 y j hj⟩
set_option maxHeartbeats 1000000 in
theorem eye_number (w : World) (g : Nat) (s : ByteArray) (p m : Nat) (h : Eye w g s p) (hm : p + m ≤ s.size) (hs : s.size ≤ 1000000) (h4 : m ≤ 4) :
    Calls Tryd.prog 66 #[.pointer (some ⟨g, 0, none⟩), .int .i64 (m : Int)] w fun e w' => e = .returned (.int .u32 (num (s.extract p (p + m)).data.toList)) ∧ Eye w' g s (p + m) ∧ Turn g w w' := by
  have HT := Aside0.mk (eye_Take w g s p m h hm hs)
  have HG := Aside0.mk (lt_of_block h)
  obtain ⟨y, hy⟩ : ∃ y, s.extract p (p + m) = y := ⟨_, rfl⟩
  have hyl : y.data.toList.length = m := by
    rw [← hy, Array.length_toList]
    show (s.extract p (p + m)).size = m
    rw [ByteArray.size_extract]
    omega
  rw [hy] at HT ⊢
  have HM := Aside0.mk (And.intro h4 hyl)
  have hcv := fun W : World => Lib.run_convert_string_bytes (P := Tryd.prog) W 9 42 5 y Tryd.underlying9 Tryd.underlying42 Tryd.underlying5
  have hys : y.size = m := by rw [← hyl, Array.length_toList]; rfl
  clear h hm hs h4 hy hyl
  go_enter Tryd.func66, Tryd.ntmps66
  go_wp2_with (go_at_call 54; (with_reducible refine HT.out.mono ?_); rintro e w1 ⟨rfl, he, hT⟩; have HE := Aside0.mk he; have HTu := Aside0.mk hT; clear he hT)
  have hW := bytes_world w1 y
  obtain ⟨W2, hW2⟩ : ∃ W2, Lib.bytesWorld w1 5 y = W2 := ⟨_, rfl⟩
  rw [hW2] at hW ⊢
  obtain ⟨hb, hcell⟩ := hW
  have HS2 := Aside0.mk (show Eye W2 g s (p + m) ∧ Turn g w W2 ∧ ∀ j, j < m → W2.cell? ⟨w1.heap.size, j, none⟩ = some (.int .u8 ((y.data.toList.getD j 0).toNat : Int)) from ⟨(hb.block g (Nat.lt_of_lt_of_le HG.out HTu.out.size)).trans HE.out, HTu.out.trans (Turn.of_below hb), fun j hj => hcell j (by omega)⟩)
  obtain ⟨cap, hcap⟩ : ∃ cap, grownCap w1 m 0 5 = cap := ⟨_, rfl⟩
  try rw [hcap]
  clear hb hcell hW2 hcv hys hcap HE HTu
  generalize w1.heap.size = E at *
  obtain ⟨l, hl⟩ : ∃ l, y.data.toList = l := ⟨_, rfl⟩
  rw [hl] at HM HS2
  have HLE := Aside0.mk hl
  clear hl
  go_loopg [5, 13] (m + 1) (fun kq v5 v13 w' => ∃ (k : Nat), v5 = .int .u32 ((num (l.take k) : Nat) : Int) ∧ v13 = .int .i64 (k : Int) ∧ Aside0 (kq + k = m + 1 ∧ k ≤ m) ∧ Aside0 (Eye w' g s (p + m) ∧ Turn g w w' ∧ ∀ j, j < m → w'.cell? ⟨E, j, none⟩ = some (.int .u8 ((l.getD j 0).toNat : Int))))
  case atStart => exact ⟨0, rfl, rfl, ⟨by omega⟩, HS2⟩
  case round =>
    clear HS2
    obtain ⟨k, rfl, rfl, HK, HS2⟩ := hrel
    by_cases hk : k < m
    · have hc := HS2.out.2.2 k hk
      have hkl : k < l.length := by have := HM.out; omega
      have e0 : l.getD k 0 = l[k] := by rw [List.getD_eq_getElem?_getD, List.getElem?_eq_getElem hkl]; rfl
      rw [e0] at hc
      have hn := num_take l k hkl
      have hb1 := num_lt (l.take k)
      have hb2 : num (l.take k) < 16777216 := by
        refine Nat.lt_of_lt_of_le hb1 ?_
        have : (l.take k).length ≤ 3 := by rw [List.length_take]; have := HM.out; omega
        calc 256 ^ (l.take k).length ≤ 256 ^ 3 := Nat.pow_le_pow_right (by decide) this
          _ = 16777216 := by decide
      have hc8 : l[k].toNat < 256 := l[k].toNat_lt
      have ho := or8 (num (l.take k)) l[k].toNat hb2 hc8
      rw [← hn] at ho
      have d1 : decide (k < m) = true := decide_eq_true hk
      have d2 : decide ((k : Int) < (m : Int)) = true := decide_eq_true (by omega)
      have y1 : (num (l.take k) : Int) < 16777216 := by omega
      have y2 : 0 ≤ (num (l.take k) : Int) := by omega
      have y3 : (l[k].toNat : Int) < 256 := by omega
      have y4 : (k : Int) ≤ 4 := by have := HM.out; omega
      have y5 : (k : Int) < (m : Int) := by omega
      have HKM := Aside0.mk hk
      clear hn hb1 hb2 e0
      generalize l[k].toNat = cc at *
      generalize num (l.take k) = nn at *
      obtain ⟨n2, hn2⟩ : ∃ n2, num (l.take (k + 1)) = n2 := ⟨_, rfl⟩
      have HN2 := Aside0.mk hn2
      rw [hn2] at ho
      clear hn2
      clear hk hkl hc8
      go_wp2
      go_roundg (gk - 1)
      case measure => have := HK.out; have := HKM.out; omega
      case rel => exact ⟨k + 1, by rw [HN2.out], by first | rfl | (simp; done), ⟨by have := HK.out; have := HKM.out; omega⟩, HS2⟩
    · obtain rfl : k = m := by have := HK.out; omega
      have d1 : decide (k < k) = false := decide_eq_false (by omega)
      clear hk
      go_wp2
      go_ret
      exact ⟨by rw [HLE.out, List.take_of_length_le (by have := HM.out; omega)]; rfl, HS2.out.1, HS2.out.2.1⟩
theorem frees {w : World} {b : Nat} {cs : Array Value} {t : TypeId} (h : w.heap[b]? = some (.cells cs t (0, 0))) (j : Nat) : w.frozen? ⟨b, j, none⟩ = false := by
  simp only [World.frozen?, h]
  simp
def nat (s : ByteArray) (p m : Nat) : Int := ((num (s.extract p (p + m)).data.toList : Nat) : Int)
theorem nat_rng (s : ByteArray) (p m : Nat) : 0 ≤ nat s p m ∧ nat s p m < 256 ^ m := by
  have h := num_lt (s.extract p (p + m)).data.toList
  have hl : (s.extract p (p + m)).data.toList.length ≤ m := by
    rw [Array.length_toList]
    show (s.extract p (p + m)).size ≤ m
    rw [ByteArray.size_extract]
    omega
  have h2 : 256 ^ (s.extract p (p + m)).data.toList.length ≤ 256 ^ m := Nat.pow_le_pow_right (by decide) hl
  unfold nat
  refine ⟨by omega, ?_⟩
  have h3 : num (s.extract p (p + m)).data.toList < 256 ^ m := Nat.lt_of_lt_of_le h h2
  rw [show (256 : Int) ^ m = ((256 ^ m : Nat) : Int) by simp]
  omega
theorem eye_num (w : World) (g : Nat) (s : ByteArray) (p m : Nat) (mi : Int) (hmi : mi = (m : Int)) (h : Eye w g s p) (hm : p + m ≤ s.size) (hs : s.size ≤ 1000000) (h4 : m ≤ 4) :
    Calls Tryd.prog 66 #[.pointer (some ⟨g, 0, none⟩), .int .i64 mi] w fun e w' => e = .returned (.int .u32 (nat s p m)) ∧ Eye w' g s (p + m) ∧ Turn g w w' := by
  subst hmi
  exact eye_number w g s p m h hm hs h4
theorem Turn.over {g E : Nat} {w w1 : World} (h : Turn g w w1) (hE : w.heap.size ≤ E) (j : Nat) (u : Value) : Turn g w (w1.setCell ⟨E, j, none⟩ u) :=
  ⟨h.os, h.tape, h.output, by rw [World.size_setCell]; exact h.size, fun k hk hg => (Below.heap_setCell _ _ _ _ (by show k ≠ E; omega)).trans (h.block k hk hg)⟩
theorem eye_over {w : World} {g E p : Nat} {s : ByteArray} (h : Eye w g s p) (hne : E ≠ g) (j : Nat) (u : Value) : Eye (w.setCell ⟨E, j, none⟩ u) g s p :=
  (Below.heap_setCell _ _ _ _ (fun e => hne e.symm)).trans h
theorem eye_Byte (w : World) (g : Nat) (s : ByteArray) (p : Nat) (h : Eye w g s p) (hm : p + 1 ≤ s.size) (hs : s.size ≤ 1000000) :
    Calls Tryd.prog 50 #[.pointer (some ⟨g, 0, none⟩)] w fun e w' => e = .returned (.int .u8 (nat s p 1)) ∧ Eye w' g s (p + 1) ∧ Turn g w w' := by
  have HT := Aside0.mk (eye_num w g s p 1 1 rfl h hm hs (by omega))
  have hr := nat_rng s p 1
  have e0 : IntKind.u8.wrap (nat s p 1) = nat s p 1 := by rw [IntKind.wrap_u8]; omega
  generalize nat s p 1 = n at *
  have y1 : n < 256 := by omega
  have y2 : 0 ≤ n := by omega
  clear h hm hs hr
  go_enter Tryd.func50, Tryd.ntmps50
  go_wp2_with (go_at_call 66; (with_reducible refine HT.out.mono ?_); rintro e w1 ⟨rfl, he, hT⟩)
  go_ret
  exact ⟨rfl, he, hT⟩
theorem eye_Two (w : World) (g : Nat) (s : ByteArray) (p : Nat) (h : Eye w g s p) (hm : p + 2 ≤ s.size) (hs : s.size ≤ 1000000) :
    Calls Tryd.prog 51 #[.pointer (some ⟨g, 0, none⟩)] w fun e w' => e = .returned (.int .u16 (nat s p 2)) ∧ Eye w' g s (p + 2) ∧ Turn g w w' := by
  have HT := Aside0.mk (eye_num w g s p 2 2 rfl h hm hs (by omega))
  have hr := nat_rng s p 2
  have e0 : IntKind.u16.wrap (nat s p 2) = nat s p 2 := by rw [IntKind.wrap_u16]; omega
  generalize nat s p 2 = n at *
  have y1 : n < 65536 := by omega
  have y2 : 0 ≤ n := by omega
  clear h hm hs hr
  go_enter Tryd.func51, Tryd.ntmps51
  go_wp2_with (go_at_call 66; (with_reducible refine HT.out.mono ?_); rintro e w1 ⟨rfl, he, hT⟩)
  go_ret
  exact ⟨rfl, he, hT⟩
theorem eye_Four (w : World) (g : Nat) (s : ByteArray) (p : Nat) (h : Eye w g s p) (hm : p + 4 ≤ s.size) (hs : s.size ≤ 1000000) :
    Calls Tryd.prog 53 #[.pointer (some ⟨g, 0, none⟩)] w fun e w' => e = .returned (.int .u32 (nat s p 4)) ∧ Eye w' g s (p + 4) ∧ Turn g w w' := by
  have HT := Aside0.mk (eye_num w g s p 4 4 rfl h hm hs (by omega))
  generalize nat s p 4 = n at *
  clear h hm hs
  go_enter Tryd.func53, Tryd.ntmps53
  go_wp2_with (go_at_call 66; (with_reducible refine HT.out.mono ?_); rintro e w1 ⟨rfl, he, hT⟩)
  go_ret
  exact ⟨rfl, he, hT⟩
theorem eye_get (w : World) (g : Nat) (s : ByteArray) (p : Nat) (h : Eye w g s p) (hm : p + 5 ≤ s.size) (hs : s.size ≤ 1000000) :
    Calls Tryd.prog 52 #[.pointer (some ⟨g, 0, none⟩)] w fun e w' => e = .returned (.agg #[.int .u16 (nat s p 2), .int .u8 (nat s (p + 2) 1), .int .u16 (nat s (p + 3) 2)]) ∧ Eye w' g s (p + 5) ∧ Turn g w w' := by
  have hn := three_ w (.int .u16 0) (.int .u8 0) (.int .u16 0) 24
  have hb := (Below.refl w.heap.size w).alloc (Nat.le_refl _) (.cells #[.int .u16 0, .int .u8 0, .int .u16 0] 24)
  have hg := lt_of_block h
  have HE := Aside0.mk (show Eye (w.alloc (.cells #[.int .u16 0, .int .u8 0, .int .u16 0] 24)) g s p from (hb.block g hg).trans h)
  have HN := Aside0.mk hn
  have HT := Aside0.mk (Turn.of_below (g := g) hb)
  have HNE := Aside0.mk (show w.heap.size ≠ g by omega)
  have HM := Aside0.mk (And.intro hm hs)
  clear h hn hb hg hm hs
  go_enter Tryd.func52, Tryd.ntmps52
  go_upto_region 1 with (fail)
  generalize w.alloc (.cells #[.int .u16 0, .int .u8 0, .int .u16 0] 24) = W0 at *
  generalize hEq : w.heap.size = E at *
  have HSZ := Aside0.mk (Nat.le_of_eq hEq)
  clear hEq
  go_wp2_with (first
    | (go_at_call 51; (with_reducible refine (eye_Two _ g s p HE.out (by have := HM.out; omega) HM.out.2).mono ?_); rintro e w1 ⟨rfl, he, hT⟩; have n2_ := Aside0.mk ((hT.block E (lt_of_block HN.out) HNE.out).trans HN.out); have n0_ := Aside0.mk he; have n1_ := Aside0.mk (HT.out.trans hT); clear HE HT he hT; have HE := n0_; have HT := n1_; clear n0_ n1_; clear HN; have HN := n2_; clear n2_)
    | (go_at_call 50; (with_reducible refine (eye_Byte _ g s (p + 2) HE.out (by have := HM.out; omega) HM.out.2).mono ?_); rintro e w1 ⟨rfl, he, hT⟩; have n2_ := Aside0.mk ((hT.block E (lt_of_block HN.out) HNE.out).trans HN.out); have n0_ := Aside0.mk he; have n1_ := Aside0.mk (HT.out.trans hT); clear HE HT he hT; have HE := n0_; have HT := n1_; clear n0_ n1_; clear HN; have HN := n2_; clear n2_)
    | (go_at_call 51; (with_reducible refine (eye_Two _ g s (p + 3) HE.out (by have := HM.out; omega) HM.out.2).mono ?_); rintro e w1 ⟨rfl, he, hT⟩; have n2_ := Aside0.mk ((hT.block E (lt_of_block HN.out) HNE.out).trans HN.out); have n0_ := Aside0.mk he; have n1_ := Aside0.mk (HT.out.trans hT); clear HE HT he hT; have HE := n0_; have HT := n1_; clear n0_ n1_; clear HN; have HN := n2_; clear n2_; have c0 := blk_cell HN.out 0; have c1 := blk_cell HN.out 1; have c2 := blk_cell HN.out 2; have f0 := frees HN.out 0; have f1 := frees HN.out 1; have f2 := frees HN.out 2; simp only [List.getElem?_toArray, List.getElem?_cons_zero, List.getElem?_cons_succ] at c0 c1 c2))
  exact bodyPost_ret (v := .agg #[.int .u16 (nat s p 2), .int .u8 (nat s (p + 2) 1), .int .u16 (nat s (p + 3) 2)]) (by simp [results, Tryd.results52, go_sem, c0, c1, c2]) rfl ⟨rfl, eye_over (eye_over (eye_over HE.out HNE.out _ _) HNE.out _ _) HNE.out _ _, ((HT.out.over HSZ.out _ _).over HSZ.out _ _).over HSZ.out _ _⟩
end Go.Proofs.YtkcaifpmceoflaaDoor.Frm

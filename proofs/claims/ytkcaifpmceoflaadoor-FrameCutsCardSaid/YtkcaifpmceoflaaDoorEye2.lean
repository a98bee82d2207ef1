/- An eye reads numbers, and an epoch: the walks. Conditions: those that each statement names. -/
import Derived.Test.YtkcaifpmceoflaaDoorEye
namespace Go.Proofs.YtkcaifpmceoflaaDoor.Frm
open Go.RowKit Go.Proofs.YtkcaifpmceoflaaDoorW.PrintWords Go.Proofs.YtkcaifpmceoflaaDoorW.PrintLast Go.Proofs.YtkcaifpmceoflaaDoorW.PrintMore
set_option linter.unusedVariables false
theorem bytes_world (w : World) (y : ByteArray) : Below w.heap.size w (Lib.bytesWorld w 5 y) ∧ ∀ j, j < y.size → (Lib.bytesWorld w 5 y).cell? ⟨w.heap.size, j, none⟩ = some (.int .u8 ((y.data.toList.getD j 0).toNat : Int)) :=
  ⟨⟨rfl, rfl, rfl, by rw [Lib.bytesWorld_size]; omega, fun k hk => Lib.bytesWorld_at_old w 5 y k hk⟩, fun j hj => Lib.bytesWorld_cell w 5 y j hj⟩
set_option maxHeartbeats 1000000 in
theorem eye_number (w : World) (g : Nat) (s : ByteArray) (p m : Nat) (h : Eye w g s p) (hm : p + m ≤ s.size) (hs : s.size ≤ 1000000) (h4 : m ≤ 4) :
    Calls Tryd.prog 66 #[.pointer (some ⟨g, 0, none⟩), .int .i64 (m : Int)] w fun e w' => e = .returned (.int .u32 (num (s.extract p (p + m)).data.toList)) ∧ Eye w' g s (p + m) ∧ Turn g w w' := by
  have HT := Aside0.mk (eye_Take w g s p m h hm hs)
  have HG := Aside0.mk (lt_of_block h)
  obtain ⟨y, hy⟩ : ∃ y, s.extract p (p + m) = y := ⟨_, rfl⟩
  have hyl : y.data.toList.length = m := by
    rw [← hy, Array.length_toList]
    show (s.extract p (p + m)).size = m
    rw [ByteArray.size_extract]
    omega
  rw [hy] at HT ⊢
  have HM := Aside0.mk (And.intro h4 hyl)
  have hcv := fun W : World => Lib.run_convert_string_bytes (P := Tryd.prog) W 9 42 5 y Tryd.underlying9 Tryd.underlying42 Tryd.underlying5
  have hys : y.size = m := by rw [← hyl, Array.length_toList]; rfl
  clear h hm hs h4 hy hyl
  go_enter Tryd.func66, Tryd.ntmps66
  go_wp2_with (go_at_call 54; (with_reducible refine HT.out.mono ?_); rintro e w1 ⟨rfl, he, hT⟩; have HE := Aside0.mk he; have HTu := Aside0.mk hT; clear he hT)
  have hW := bytes_world w1 y
  obtain ⟨W2, hW2⟩ : ∃ W2, Lib.bytesWorld w1 5 y = W2 := ⟨_, rfl⟩
  rw [hW2] at hW ⊢
  obtain ⟨hb, hcell⟩ := hW
  have HS2 := Aside0.mk (show Eye W2 g s (p + m) ∧ Turn g w W2 ∧ ∀ j, j < m → W2.cell? ⟨w1.heap.size, j, none⟩ = some (.int .u8 ((y.data.toList.getD j 0).toNat : Int)) from ⟨(hb.block g (Nat.lt_of_lt_of_le HG.out HTu.out.size)).trans HE.out, HTu.out.trans (Turn.of_below hb), fun j hj => hcell j (by omega)⟩)
  obtain ⟨cap, hcap⟩ : ∃ cap, grownCap w1 m 0 5 = cap := ⟨_, rfl⟩
  try rw [hcap]
  clear hb hcell hW2 hcv hys hcap HE HTu
  generalize w1.heap.size = E at *
  obtain ⟨l, hl⟩ : ∃ l, y.data.toList = l := ⟨_, rfl⟩
  rw [hl] at HM HS2
  have HLE := Aside0.mk hl
  clear hl
  go_loopg [5, 13] (m + 1) (fun kq v5 v13 w' => ∃ (k : Nat), v5 = .int .u32 ((num (l.take k) : Nat) : Int) ∧ v13 = .int .i64 (k : Int) ∧ Aside0 (kq + k = m + 1 ∧ k ≤ m) ∧ Aside0 (Eye w' g s (p + m) ∧ Turn g w w' ∧ ∀ j, j < m → w'.cell? ⟨E, j, none⟩ = some (.int .u8 ((l.getD j 0).toNat : Int))))
  case atStart => exact ⟨0, rfl, rfl, ⟨by omega⟩, HS2⟩
  case round =>
    clear HS2
    obtain ⟨k, rfl, rfl, HK, HS2⟩ := hrel
    by_cases hk : k < m
    · have hc := HS2.out.2.2 k hk
      have hkl : k < l.length := by have := HM.out; omega
      have e0 : l.getD k 0 = l[k] := by rw [List.getD_eq_getElem?_getD, List.getElem?_eq_getElem hkl]; rfl
      rw [e0] at hc
      have hn := num_take l k hkl
      have hb1 := num_lt (l.take k)
      have hb2 : num (l.take k) < 16777216 := by
        refine Nat.lt_of_lt_of_le hb1 ?_
        have : (l.take k).length ≤ 3 := by rw [List.length_take]; have := HM.out; omega
        calc 256 ^ (l.take k).length ≤ 256 ^ 3 := Nat.pow_le_pow_right (by decide) this
          _ = 16777216 := by decide
      have hc8 : l[k].toNat < 256 := l[k].toNat_lt
      have ho := or8 (num (l.take k)) l[k].toNat hb2 hc8
      rw [← hn] at ho
      have d1 : decide (k < m) = true := decide_eq_true hk
      have d2 : decide ((k : Int) < (m : Int)) = true := decide_eq_true (by omega)
      have y1 : (num (l.take k) : Int) < 16777216 := by omega
      have y2 : 0 ≤ (num (l.take k) : Int) := by omega
      have y3 : (l[k].toNat : Int) < 256 := by omega
      have y4 : (k : Int) ≤ 4 := by have := HM.out; omega
      have y5 : (k : Int) < (m : Int) := by omega
      have HKM := Aside0.mk hk
      clear hn hb1 hb2 e0
      generalize l[k].toNat = cc at *
      generalize num (l.take k) = nn at *
      obtain ⟨n2, hn2⟩ : ∃ n2, num (l.take (k + 1)) = n2 := ⟨_, rfl⟩
      have HN2 := Aside0.mk hn2
      rw [hn2] at ho
      clear hn2
      clear hk hkl hc8
      go_wp2
      go_roundg (gk - 1)
      case measure => have := HK.out; have := HKM.out; omega
      case rel => exact ⟨k + 1, by rw [HN2.out], by first | rfl | (simp; done), ⟨by have := HK.out; have := HKM.out; omega⟩, HS2⟩
    · obtain rfl : k = m := by have := HK.out; omega
      have d1 : decide (k < k) = false := decide_eq_false (by omega)
      clear hk
      go_wp2
      go_ret
      exact ⟨by rw [HLE.out, List.take_of_length_le (by have := HM.out; omega)]; rfl, HS2.out.1, HS2.out.2.1⟩
theorem frees {w : World} {b : Nat} {cs : Array Value} {t : TypeId} (h : w.heap[b]? = some (.cells cs t (0, 0))) (j : Nat) : w.frozen? ⟨b, j, none⟩ = false := by
  simp only [World.frozen?, h]
  simp
def nat (s : ByteArray) (p m : Nat) : Int := ((num (s.extract p (p + m)).data.toList : Nat) : Int)
theorem nat_rng (s : ByteArray) (p m : Nat) : 0 ≤ nat s p m ∧ nat s p m < 256 ^ m := by
  have h := num_lt (s.extract p (p + m)).data.toList
  have hl : (s.extract p (p + m)).data.toList.length ≤ m := by
    rw [Array.length_toList]
    show (s.extract p (p + m)).size ≤ m
    rw [ByteArray.size_extract]
    omega
  have h2 : 256 ^ (s.extract p (p + m)).data.toList.length ≤ 256 ^ m := Nat.pow_le_pow_right (by decide) hl
  unfold nat
  refine ⟨by omega, ?_⟩
  have h3 : num (s.extract p (p + m)).data.toList < 256 ^ m := Nat.lt_of_lt_of_le h h2
  rw [show (256 : Int) ^ m = ((256 ^ m : Nat) : Int) by simp]
  omega
theorem eye_num (w : World) (g : Nat) (s : ByteArray) (p m : Nat) (mi : Int) (hmi : mi = (m : Int)) (h : Eye w g s p) (hm : p + m ≤ s.size) (hs : s.size ≤ 1000000) (h4 : m ≤ 4) :
    Calls Tryd.prog 66 #[.pointer (some ⟨g, 0, none⟩), .int .i64 mi] w fun e w' => e = .returned (.int .u32 (nat s p m)) ∧ Eye w' g s (p + m) ∧ Turn g w w' := by
  subst hmi
  exact eye_number w g s p m h hm hs h4
theorem Turn.over {g E : Nat} {w w1 : World} (h : Turn g w w1) (hE : w.heap.size ≤ E) (j : Nat) (u : Value) : Turn g w (w1.setCell ⟨E, j, none⟩ u) :=
  ⟨h.os, h.tape, h.output, by rw [World.size_setCell]; exact h.size, fun k hk hg => (Below.heap_setCell _ _ _ _ (by show k ≠ E; omega)).trans (h.block k hk hg)⟩
theorem eye_over {w : World} {g E p : Nat} {s : ByteArray} (h : Eye w g s p) (hne : E ≠ g) (j : Nat) (u : Value) : Eye (w.setCell ⟨E, j, none⟩ u) g s p :=
  (Below.heap_setCell _ _ _ _ (fun e => hne e.symm)).trans h
theorem eye_Byte (w : World) (g : Nat) (s : ByteArray) (p : Nat) (h : Eye w g s p) (hm : p + 1 ≤ s.size) (hs : s.size ≤ 1000000) :
    Calls Tryd.prog 50 #[.pointer (some ⟨g, 0, none⟩)] w fun e w' => e = .returned (.int .u8 (nat s p 1)) ∧ Eye w' g s (p + 1) ∧ Turn g w w' := by
  have HT := Aside0.mk (eye_num w g s p 1 1 rfl h hm hs (by omega))
  have hr := nat_rng s p 1
  have e0 : IntKind.u8.wrap (nat s p 1) = nat s p 1 := by rw [IntKind.wrap_u8]; omega
  generalize nat s p 1 = n at *
  have y1 : n < 256 := by omega
  have y2 : 0 ≤ n := by omega
  clear h hm hs hr
  go_enter Tryd.func50, Tryd.ntmps50
  go_wp2_with (go_at_call 66; (with_reducible refine HT.out.mono ?_); rintro e w1 ⟨rfl, he, hT⟩)
  go_ret
  exact ⟨rfl, he, hT⟩
theorem eye_Two (w : World) (g : Nat) (s : ByteArray) (p : Nat) (h : Eye w g s p) (hm : p + 2 ≤ s.size) (hs : s.size ≤ 1000000) :
    Calls Tryd.prog 51 #[.pointer (some ⟨g, 0, none⟩)] w fun e w' => e = .returned (.int .u16 (nat s p 2)) ∧ Eye w' g s (p + 2) ∧ Turn g w w' := by
  have HT := Aside0.mk (eye_num w g s p 2 2 rfl h hm hs (by omega))
  have hr := nat_rng s p 2
  have e0 : IntKind.u16.wrap (nat s p 2) = nat s p 2 := by rw [IntKind.wrap_u16]; omega
  generalize nat s p 2 = n at *
  have y1 : n < 65536 := by omega
  have y2 : 0 ≤ n := by omega
  clear h hm hs hr
  go_enter Tryd.func51, Tryd.ntmps51
  go_wp2_with (go_at_call 66; (with_reducible refine HT.out.mono ?_); rintro e w1 ⟨rfl, he, hT⟩)
  go_ret
  exact ⟨rfl, he, hT⟩
theorem eye_Four (w : World) (g : Nat) (s : ByteArray) (p : Nat) (h : Eye w g s p) (hm : p + 4 ≤ s.size) (hs : s.size ≤ 1000000) :
    Calls Tryd.prog 53 #[.pointer (some ⟨g, 0, none⟩)] w fun e w' => e = .returned (.int .u32 (nat s p 4)) ∧ Eye w' g s (p + 4) ∧ Turn g w w' := by
  have HT := Aside0.mk (eye_num w g s p 4 4 rfl h hm hs (by omega))
  generalize nat s p 4 = n at *
  clear h hm hs
  go_enter Tryd.func53, Tryd.ntmps53
  go_wp2_with (go_at_call 66; (with_reducible refine HT.out.mono ?_); rintro e w1 ⟨rfl, he, hT⟩)
  go_ret
  exact ⟨rfl, he, hT⟩
theorem eye_get (w : World) (g : Nat) (s : ByteArray) (p : Nat) (h : Eye w g s p) (hm : p + 5 ≤ s.size) (hs : s.size ≤ 1000000) :
    Calls Tryd.prog 52 #[.pointer (some ⟨g, 0, none⟩)] w fun e w' => e = .returned (.agg #[.int .u16 (nat s p 2), .int .u8 (nat s (p + 2) 1), .int .u16 (nat s (p + 3) 2)]) ∧ Eye w' g s (p + 5) ∧ Turn g w w' := by
  have hn := three_ w (.int .u16 0) (.int .u8 0) (.int .u16 0) 24
  have hb := (Below.refl w.heap.size w).alloc (Nat.le_refl _) (.cells #[.int .u16 0, .int .u8 0, .int .u16 0] 24)
  have hg := lt_of_block h
  have HE := Aside0.mk (show Eye (w.alloc (.cells #[.int .u16 0, .int .u8 0, .int .u16 0] 24)) g s p from (hb.block g hg).trans h)
  have HN := Aside0.mk hn
  have HT := Aside0.mk (Turn.of_below (g := g) hb)
  have HNE := Aside0.mk (show w.heap.size ≠ g by omega)
  have HM := Aside0.mk (And.intro hm hs)
  clear h hn hb hg hm hs
  go_enter Tryd.func52, Tryd.ntmps52
  go_upto_region 1 with (fail)
  generalize w.alloc (.cells #[.int .u16 0, .int .u8 0, .int .u16 0] 24) = W0 at *
  generalize hEq : w.heap.size = E at *
  have HSZ := Aside0.mk (Nat.le_of_eq hEq)
  clear hEq
  go_wp2_with (first
    | (go_at_call 51; (with_reducible refine (eye_Two _ g s p HE.out (by have := HM.out; omega) HM.out.2).mono ?_); rintro e w1 ⟨rfl, he, hT⟩; have n2_ := Aside0.mk ((hT.block E (lt_of_block HN.out) HNE.out).trans HN.out); have n0_ := Aside0.mk he; have n1_ := Aside0.mk (HT.out.trans hT); clear HE HT he hT; have HE := n0_; have HT := n1_; clear n0_ n1_; clear HN; have HN := n2_; clear n2_)
    | (go_at_call 50; (with_reducible refine (eye_Byte _ g s (p + 2) HE.out (by have := HM.out; omega) HM.out.2).mono ?_); rintro e w1 ⟨rfl, he, hT⟩; have n2_ := Aside0.mk ((hT.block E (lt_of_block HN.out) HNE.out).trans HN.out); have n0_ := Aside0.mk he; have n1_ := Aside0.mk (HT.out.trans hT); clear HE HT he hT; have HE := n0_; have HT := n1_; clear n0_ n1_; clear HN; have HN := n2_; clear n2_)
    | (go_at_call 51; (with_reducible refine (eye_Two _ g s (p + 3) HE.out (by have := HM.out; omega) HM.out.2).mono ?_); rintro e w1 ⟨rfl, he, hT⟩; have n2_ := Aside0.mk ((hT.block E (lt_of_block HN.out) HNE.out).trans HN.out); have n0_ := Aside0.mk he; have n1_ := Aside0.mk (HT.out.trans hT); clear HE HT he hT; have HE := n0_; have HT := n1_; clear n0_ n1_; clear HN; have HN := n2_; clear n2_; have c0 := blk_cell HN.out 0; have c1 := blk_cell HN.out 1; have c2 := blk_cell HN.out 2; have f0 := frees HN.out 0; have f1 := frees HN.out 1; have f2 := frees HN.out 2; simp only [List.getElem?_toArray, List.getElem?_cons_zero, List.getElem?_cons_succ] at c0 c1 c2))
  exact bodyPost_ret (v := .agg #[.int .u16 (nat s p 2), .int .u8 (nat s (p + 2) 1), .int .u16 (nat s (p + 3) 2)]) (by simp [results, Tryd.results52, go_sem, c0, c1, c2]) rfl ⟨rfl, eye_over (eye_over (eye_over HE.out HNE.out _ _) HNE.out _ _) HNE.out _ _, ((HT.out.over HSZ.out _ _).over HSZ.out _ _).over HSZ.out _ _⟩
end Go.Proofs.YtkcaifpmceoflaaDoor.Frm

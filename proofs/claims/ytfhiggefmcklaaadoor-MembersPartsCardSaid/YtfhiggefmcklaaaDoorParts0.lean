/- The walk through the law's function MembersParts, whose argument is an array of two bytes: where what it calls answers as told, it answers true. Conditions: those that each statement names. -/
import Derived.Test.YtfhiggefmcklaaaDoorOwnx
import Derived.WalkSmall
namespace Go.Proofs.YtfhiggefmcklaaaDoor.Plain
open Go.RowKit Go.Proofs.YtfhiggefmcklaaaDoor.Own Go.Proofs.YtfhiggefmcklaaaDoorW.PrintWords Go.Proofs.YtfhiggefmcklaaaDoorW.PrintLast Go.Proofs.YtfhiggefmcklaaaDoorW.PrintMore
set_option linter.unusedVariables false
theorem laid_lt (w : World) (o : Obj) : w.heap.size < (w.alloc o).heap.size := by
  rw [show (w.alloc o).heap = w.heap.push o from rfl, Array.size_push]
  exact Nat.lt_succ_self _
theorem pair_cells {w w' : World} (x y : Value) (t : TypeId) (hb : Below (w.alloc (.cells #[x, y] t)).heap.size (w.alloc (.cells #[x, y] t)) w') : w'.cell? ⟨w.heap.size, 0, none⟩ = some x ∧ w'.cell? ⟨w.heap.size, 1, none⟩ = some y :=
  ⟨(hb.cell (p := ⟨w.heap.size, 0, none⟩) (laid_lt _ _)).trans (cell_two_new w x y t 0 _ rfl), (hb.cell (p := ⟨w.heap.size, 1, none⟩) (laid_lt _ _)).trans (cell_two_new w x y t 1 _ rfl)⟩
theorem walk_same (k : Nat) (s x y a b u d e1 e2 p : Int) (w : World) (hA0 : fuglemanlaw05_awake.f k = some true) (ht_ : Tabs w) (hra : wrap64 (Int.tmod x 32) = a) (hrb : wrap64 (Int.tmod y 32) = b)
    (hu0 : members_Between.f a b = some u) (hd0 : members_Between.f b a = some d) (he10 : members_With.f 0 a = some e1) (he20 : members_With.f e1 b = some e2) (hp0 : members_Pass.f k s a b = some p)
    (h1 : (a == b) = true) (h2 : (u == d) = true) (h3 : (u == Go.bits .xor .u32 IntKind.u32.max e2) = true) (h4 : (p == e2) = true) :
    Calls Tryd.prog 7 #[.int .u32 s, .agg #[.int .u8 x, .int .u8 y]] w fun e w' => e = .returned (.bool true) ∧ Below w.heap.size w w' := by
  have HT_ := Aside0.mk ht_
  have HB := Aside0.mk (Below.refl w.heap.size w)
  have hA := Aside0.mk hA0
  have hu := Aside0.mk hu0
  have hd := Aside0.mk hd0
  have he1 := Aside0.mk he10
  have he2 := Aside0.mk he20
  have hp := Aside0.mk hp0
  clear ht_ hA0 hu0 hd0 he10 he20 hp0
  have h3e := eq_true (beq_iff_eq.1 h3)
  go_enter Tryd.func7, Tryd.ntmps7
  go_wp2_with (go_at_call 8; (with_reducible refine (fuglemanlaw05_awake.calls k true _ hA.out ?tb).mono ?_); (case tb => (repeat (first | exact tabs_below HT_.out (by repeat (first | (with_reducible first | exact HB.out | apply below_alloc | apply pw_below_drewN | apply below_drew1) | exact HB.out)) | exact tabs_below HT_.out HB.out | (with_reducible refine tabs_alloc ?_ _) | (with_reducible refine tabs_drewN ?_ _) | (with_reducible refine tabs_drew ?_) | exact HT_.out))); rintro e w_ ⟨rfl, hb⟩; obtain ⟨hc0, hc1⟩ := pair_cells _ _ _ hb; have n0_ := Aside0.mk (below_step (by repeat (first | (with_reducible first | exact HB.out | apply below_alloc | apply pw_below_drewN | apply below_drew1) | exact HB.out)) hb); clear HB; have HB := n0_; clear n0_; (try clear hb))
  go_region
  simp only [hra, hrb]
  clear hra hrb hc0 hc1
  go_wp2_with (first | (go_at_call 29; (with_reducible refine (members_Between.calls a b u _ hu.out).mono ?_); rintro e w_ ⟨rfl, hb⟩; have n0_ := Aside0.mk (below_step (by repeat (first | (with_reducible first | exact HB.out | apply below_alloc | apply pw_below_drewN | apply below_drew1) | exact HB.out)) hb); clear HB; have HB := n0_; clear n0_; (try clear hb)) | (go_at_call 29; (with_reducible refine (members_Between.calls b a d _ hd.out).mono ?_); rintro e w_ ⟨rfl, hb⟩; have n0_ := Aside0.mk (below_step (by repeat (first | (with_reducible first | exact HB.out | apply below_alloc | apply pw_below_drewN | apply below_drew1) | exact HB.out)) hb); clear HB; have HB := n0_; clear n0_; (try clear hb)) | (go_at_call 19; (with_reducible refine (members_With.calls 0 a e1 _ he1.out).mono ?_); rintro e w' ⟨rfl, ⟨nd, rfl⟩⟩) | (go_at_call 19; (with_reducible refine (members_With.calls e1 b e2 _ he2.out).mono ?_); rintro e w' ⟨rfl, ⟨nd, rfl⟩⟩) | (go_at_call 31; (with_reducible refine (members_Pass.calls k s a b p _ hp.out).mono ?_); rintro e w_ ⟨rfl, hb⟩; have n0_ := Aside0.mk (below_step (by repeat (first | (with_reducible first | exact HB.out | apply below_alloc | apply pw_below_drewN | apply below_drew1) | exact HB.out)) hb); clear HB; have HB := n0_; clear n0_; (try clear hb)))
  go_ret
  exact ⟨by first | rfl | (simp [*]; done), by repeat (first | (with_reducible first | exact HB.out | apply below_alloc | apply pw_below_drewN | apply below_drew1) | exact HB.out)⟩
  all_goals (exfalso; first | contradiction | (rename_i hh; exact hh (beq_iff_eq.1 h3)) | simp_all)
theorem walk_apart (k : Nat) (s x y a b u d e1 e2 p : Int) (w : World) (hA0 : fuglemanlaw05_awake.f k = some true) (ht_ : Tabs w) (hra : wrap64 (Int.tmod x 32) = a) (hrb : wrap64 (Int.tmod y 32) = b)
    (hu0 : members_Between.f a b = some u) (hd0 : members_Between.f b a = some d) (he10 : members_With.f 0 a = some e1) (he20 : members_With.f e1 b = some e2) (hp0 : members_Pass.f k s a b = some p)
    (hn0 : members_Next.f p a = some (b, true)) (h1 : (a == b) = false) (h2 : (Go.bits .and .u32 u d == 0) = true) (h3 : (Go.bits .and .u32 u e2 == 0) = true) (h4 : (Go.bits .and .u32 d e2 == 0) = true) (h5 : (Go.bits .or .u32 (Go.bits .or .u32 u d) e2 == 4294967295) = true) (h6 : (b == b) = true) (h7 : (Go.bits .and .u32 p d == Go.bits .and .u32 s d) = true) (h8 : (Go.bits .and .u32 p e2 == e2) = true) :
    Calls Tryd.prog 7 #[.int .u32 s, .agg #[.int .u8 x, .int .u8 y]] w fun e w' => e = .returned (.bool true) ∧ Below w.heap.size w w' := by
  have HT_ := Aside0.mk ht_
  have HB := Aside0.mk (Below.refl w.heap.size w)
  have hA := Aside0.mk hA0
  have hu := Aside0.mk hu0
  have hd := Aside0.mk hd0
  have he1 := Aside0.mk he10
  have he2 := Aside0.mk he20
  have hp := Aside0.mk hp0
  clear ht_ hA0 hu0 hd0 he10 he20 hp0
  have hn := Aside0.mk hn0
  clear hn0
  go_enter Tryd.func7, Tryd.ntmps7
  go_wp2_with (go_at_call 8; (with_reducible refine (fuglemanlaw05_awake.calls k true _ hA.out ?tb).mono ?_); (case tb => (repeat (first | exact tabs_below HT_.out (by repeat (first | (with_reducible first | exact HB.out | apply below_alloc | apply pw_below_drewN | apply below_drew1) | exact HB.out)) | exact tabs_below HT_.out HB.out | (with_reducible refine tabs_alloc ?_ _) | (with_reducible refine tabs_drewN ?_ _) | (with_reducible refine tabs_drew ?_) | exact HT_.out))); rintro e w_ ⟨rfl, hb⟩; obtain ⟨hc0, hc1⟩ := pair_cells _ _ _ hb; have n0_ := Aside0.mk (below_step (by repeat (first | (with_reducible first | exact HB.out | apply below_alloc | apply pw_below_drewN | apply below_drew1) | exact HB.out)) hb); clear HB; have HB := n0_; clear n0_; (try clear hb))
  go_region
  simp only [hra, hrb]
  clear hra hrb hc0 hc1
  go_wp2_with (first | (go_at_call 29; (with_reducible refine (members_Between.calls a b u _ hu.out).mono ?_); rintro e w_ ⟨rfl, hb⟩; have n0_ := Aside0.mk (below_step (by repeat (first | (with_reducible first | exact HB.out | apply below_alloc | apply pw_below_drewN | apply below_drew1) | exact HB.out)) hb); clear HB; have HB := n0_; clear n0_; (try clear hb)) | (go_at_call 29; (with_reducible refine (members_Between.calls b a d _ hd.out).mono ?_); rintro e w_ ⟨rfl, hb⟩; have n0_ := Aside0.mk (below_step (by repeat (first | (with_reducible first | exact HB.out | apply below_alloc | apply pw_below_drewN | apply below_drew1) | exact HB.out)) hb); clear HB; have HB := n0_; clear n0_; (try clear hb)) | (go_at_call 19; (with_reducible refine (members_With.calls 0 a e1 _ he1.out).mono ?_); rintro e w' ⟨rfl, ⟨nd, rfl⟩⟩) | (go_at_call 19; (with_reducible refine (members_With.calls e1 b e2 _ he2.out).mono ?_); rintro e w' ⟨rfl, ⟨nd, rfl⟩⟩) | (go_at_call 31; (with_reducible refine (members_Pass.calls k s a b p _ hp.out).mono ?_); rintro e w_ ⟨rfl, hb⟩; have n0_ := Aside0.mk (below_step (by repeat (first | (with_reducible first | exact HB.out | apply below_alloc | apply pw_below_drewN | apply below_drew1) | exact HB.out)) hb); clear HB; have HB := n0_; clear n0_; (try clear hb)) | (go_at_call 9; (with_reducible refine (members_Next.calls p a b true _ hn.out ?tb).mono ?_); (case tb => (repeat (first | exact tabs_below HT_.out (by repeat (first | (with_reducible first | exact HB.out | apply below_alloc | apply pw_below_drewN | apply below_drew1) | exact HB.out)) | exact tabs_below HT_.out HB.out | (with_reducible refine tabs_alloc ?_ _) | (with_reducible refine tabs_drewN ?_ _) | (with_reducible refine tabs_drew ?_) | exact HT_.out))); rintro e w' ⟨rfl, ⟨nd, rfl⟩⟩))
  go_ret
  exact ⟨by first | rfl | (simp [*]; done), by repeat (first | (with_reducible first | exact HB.out | apply below_alloc | apply pw_below_drewN | apply below_drew1) | exact HB.out)⟩
end Go.Proofs.YtfhiggefmcklaaaDoor.Plain

/- The walk of the laws' awake: it answers true. Conditions: those that each statement names. -/
import Derived.Test.YtkcaifpmceoflaaDoorTexts
import Derived.Test.YtkcaifpmceoflaaDoorCoded
namespace Go.Proofs.YtkcaifpmceoflaaDoor.Frm
open Go.RowKit Go.Proofs.YtkcaifpmceoflaaDoorW.PrintWords Go.Proofs.YtkcaifpmceoflaaDoorW.PrintLast Go.Proofs.YtkcaifpmceoflaaDoorW.PrintMore
theorem dgs_one (n : Nat) (h : n < 10) : dgs (n : Int) = ⟨#[UInt8.ofNat (48 + n)]⟩ := by
  unfold dgs
  rw [Int.toNat_natCast, Lib.decDigits, dif_pos h]
/-- The frame that 'awake' sends. -/
def F0 : Fr := ⟨1, 3, 5, 1, 2, 8, 3, 1, 4, 0, 0, 0, false, 0, 0, 0, 0, 0, ⟨#[]⟩⟩
theorem text_F0 : txt (head5 F0 ⟨#[116, 111, 107, 101, 110]⟩ (dgs F0.dst)) = ⟨#[116, 111, 107, 101, 110, 32, 51, 32, 62, 32, 53, 32, 56, 46, 51, 46, 49, 47, 52]⟩ := by
  have h1 := dgs_one 1 (by decide)
  have h3 := dgs_one 3 (by decide)
  have h4 := dgs_one 4 (by decide)
  have h5 := dgs_one 5 (by decide)
  have h8 := dgs_one 8 (by decide)
  have e : head5 F0 ⟨#[116, 111, 107, 101, 110]⟩ (dgs F0.dst) = [⟨#[116, 111, 107, 101, 110]⟩, ⟨#[51]⟩, ⟨#[62]⟩, ⟨#[53]⟩, ⟨#[56, 46, 51, 46, 49, 47, 52]⟩] := by
    unfold head5 etext F0
    simp only
    rw [show (3 : Int) = ((3 : Nat) : Int) from rfl, show (5 : Int) = ((5 : Nat) : Int) from rfl, show (8 : Int) = ((8 : Nat) : Int) from rfl, show (1 : Int) = ((1 : Nat) : Int) from rfl, show (4 : Int) = ((4 : Nat) : Int) from rfl, h1, h3, h4, h5, h8]
    rfl
  rw [e]
  rfl
end Go.Proofs.YtkcaifpmceoflaaDoor.Frm
namespace Go.Proofs.YtkcaifpmceoflaaDoor.Frm
open Go.RowKit Go.Proofs.YtkcaifpmceoflaaDoorW.PrintWords Go.Proofs.YtkcaifpmceoflaaDoorW.PrintLast Go.Proofs.YtkcaifpmceoflaaDoorW.PrintMore
set_option linter.unusedVariables false
set_option linter.unusedSimpArgs false
/-- What a law keeps: frames in memory, the table, all else as before. -/
structure St (w0 w : World) (L : List (Nat × Fr)) : Prop where
  fr : ∀ x ∈ L, FAt w x.1 x.2
  tab : Own.Tabs w
  below : Below w0.heap.size w0 w
theorem St.on {w0 w w' : World} {L : List (Nat × Fr)} (h : St w0 w L) (hb : Below w.heap.size w w') : St w0 w' L :=
  ⟨fun x hx => (h.fr x hx).on hb (h.fr x hx).lt, Own.tabs_below h.tab hb, h.below.trans (hb.mono h.below.size)⟩
abbrev Z29 : Obj := .cells #[.int .i64 0, .int .u8 0, .int .u8 0, .int .u16 0, .int .u16 0, .int .u16 0, .int .u8 0, .int .u16 0, .int .u16 0, .int .u16 0, .int .u8 0, .int .u16 0, .bool false, .int .u8 0, .int .u16 0, .int .u32 0, .int .u8 0, .int .u8 0, .string ⟨#[]⟩] 29
theorem St.start (w : World) (ht : Own.Tabs w) : St w w [] := ⟨fun x hx => absurd hx List.not_mem_nil, ht, Below.refl _ _⟩
theorem St.box {w0 w : World} {L : List (Nat × Fr)} (h : St w0 w L) (f : Fr) : St w0 (w.alloc (.cells (FC f) 29)) ((w.heap.size, f) :: L) := by
  have h2 := h.on ((Below.refl _ _).alloc (Nat.le_refl _) (.cells (FC f) 29))
  refine ⟨fun x hx => ?_, h2.tab, h2.below⟩
  rcases List.mem_cons.1 hx with rfl | hx
  · exact FAt.new w f
  · exact h2.fr x hx
theorem St.new {w0 w : World} {L : List (Nat × Fr)} (h : St w0 w L) (f : Fr) : ∃ W, (w.alloc (.cells #[.int .i64 0, .int .u8 0, .int .u8 0, .int .u16 0, .int .u16 0, .int .u16 0, .int .u8 0, .int .u16 0, .int .u16 0, .int .u16 0, .int .u8 0, .int .u16 0, .bool false, .int .u8 0, .int .u16 0, .int .u32 0, .int .u8 0, .int .u8 0, .string ⟨#[]⟩] 29)).setRow w.heap.size (FC f) = W ∧ (w.alloc (.cells #[.int .i64 0, .int .u8 0, .int .u8 0, .int .u16 0, .int .u16 0, .int .u16 0, .int .u8 0, .int .u16 0, .int .u16 0, .int .u16 0, .int .u8 0, .int .u16 0, .bool false, .int .u8 0, .int .u16 0, .int .u32 0, .int .u8 0, .int .u8 0, .string ⟨#[]⟩] 29)).heap[w.heap.size]? = some (.cells #[.int .i64 0, .int .u8 0, .int .u8 0, .int .u16 0, .int .u16 0, .int .u16 0, .int .u8 0, .int .u16 0, .int .u16 0, .int .u16 0, .int .u8 0, .int .u16 0, .bool false, .int .u8 0, .int .u16 0, .int .u32 0, .int .u8 0, .int .u8 0, .string ⟨#[]⟩] 29 (0, 0)) ∧ St w0 W ((w.heap.size, f) :: L) := by
  have h0 : (w.alloc (.cells #[.int .i64 0, .int .u8 0, .int .u8 0, .int .u16 0, .int .u16 0, .int .u16 0, .int .u8 0, .int .u16 0, .int .u16 0, .int .u16 0, .int .u8 0, .int .u16 0, .bool false, .int .u8 0, .int .u16 0, .int .u32 0, .int .u8 0, .int .u8 0, .string ⟨#[]⟩] 29)).heap[w.heap.size]? = some (.cells #[.int .i64 0, .int .u8 0, .int .u8 0, .int .u16 0, .int .u16 0, .int .u16 0, .int .u8 0, .int .u16 0, .int .u16 0, .int .u16 0, .int .u8 0, .int .u16 0, .bool false, .int .u8 0, .int .u16 0, .int .u32 0, .int .u8 0, .int .u8 0, .string ⟨#[]⟩] 29 (0, 0)) := FAt.new w fz
  have hb : Below w.heap.size w ((w.alloc (.cells (FC fz) 29)).setRow w.heap.size (FC f)) := ((Below.refl _ _).alloc (Nat.le_refl _) (.cells (FC fz) 29)).trans ⟨rfl, rfl, rfl, by rw [setRow_size]; exact Nat.le_refl _, fun k hk => setRow_other _ _ _ _ (by omega)⟩
  have h2 := h.on hb
  refine ⟨_, rfl, h0, ⟨fun x hx => ?_, h2.tab, h2.below⟩⟩
  rcases List.mem_cons.1 hx with rfl | hx
  · exact setRow_heap _ _ _ _ _ _ h0
  · exact h2.fr x hx
theorem rng_F0 : Rng F0 := ⟨by decide, by decide, by decide, by decide, by decide, by decide, by decide, by decide, by decide, by decide, by decide, by decide, by decide, by decide, by decide, by decide⟩
theorem right_F0 : right F0 = true := by decide
theorem text_f0 (w : World) (ht : Own.Tabs w) : Calls Tryd.prog 12 #[.agg (FC F0)] w fun e w' => e = .returned (.string ⟨#[116, 111, 107, 101, 110, 32, 51, 32, 62, 32, 53, 32, 56, 46, 51, 46, 49, 47, 52]⟩) ∧ Below w.heap.size w w' := by
  have h := text_plain w F0 rng_F0 (by decide) (by decide) _ _ _ _ (by decide) shape_1 ht
  rw [text_F0] at h
  exact h
set_option maxHeartbeats 1000000 in
theorem awake_f (w : World) (ht : Own.Tabs w) : Calls Tryd.prog 8 #[] w fun e w' => e = .returned (.bool true) ∧ Below w.heap.size w w' := by
  have HE := Aside0.mk fun W : World => enc_r W F0 right_F0
  have HD := Aside0.mk fun W : World => dec_f W (encs F0) (by have := encs_le F0 right_F0; omega)
  rw [(dec_encs F0 rng_F0 right_F0).1, (dec_encs F0 rng_F0 right_F0).2] at HD
  have HT := Aside0.mk text_f0
  have hsz : (encs F0).size = 17 := by have := encs_size F0 right_F0; have e : zsz F0 = 17 := by decide
                                       omega
  generalize encs F0 = r at *
  have hz1 : ((r.size : Int) == 17) = true := by rw [hsz]; rfl
  clear hsz
  obtain ⟨W1, hW, hlk, hst⟩ := (St.start w ht).new F0
  have HW := Aside0.mk hW
  have HLK := Aside0.mk hlk
  have HST := Aside0.mk hst
  clear hW hlk hst ht
  go_enter Tryd.func8, Tryd.ntmps8
  go_upto_region 2 with (((with_reducible refine gate_store (t := 29) (p := 1) rfl ?_); refine wpList_store_row rfl 29 (.tmp 1) (.tmp 7) rfl _ (FC (F0)) rfl rfl 29 _ HLK.out (by kernel_rfl) rfl (fc_one _) ?_; refine (congrArg (fun W => wpList Tryd.prog _ _ _ _ W) HW.out).mpr ?_; clear HW HLK))
  generalize hEq : w.heap.size = E at *
  have HSZ := Aside0.mk hEq
  clear hEq
  go_upto_region 3 with (first | ((with_reducible refine gate_dst (N := 9) rfl ?_); refine wpList_load_row rfl 29 (.tmp 1) rfl _ rfl 29 (FC (F0)) (0, 0) _ (HST.out.fr _ (List.mem_cons_self ..)) Tryd.underlying29 rfl (by kernel_rfl) ?_) | (go_at_call 9; (with_reducible refine (HE.out _).mono ?_); rintro e w1 ⟨rfl, hb⟩; have n0_ := Aside0.mk (HST.out.on hb); clear HST hb; have HST := n0_; clear n0_))
  go_upto_region 4 with (first | (go_at_call 15; (with_reducible refine (HD.out _).mono ?_); rintro e w2 ⟨rfl, hb⟩; obtain ⟨W_, hW, hlk, hst⟩ := (HST.out.on hb).new (F0); have HW := Aside0.mk hW; have HLK := Aside0.mk hlk; clear HST hb hW hlk; have HST := Aside0.mk hst; clear hst) | ((with_reducible refine gate_store (t := 29) (p := 4) rfl ?_); refine wpList_store_row rfl 29 (.tmp 4) (.tmp 16) rfl _ (FC (F0)) rfl rfl 29 _ HLK.out (by kernel_rfl) rfl (fc_one _) ?_; refine (congrArg (fun W => wpList Tryd.prog _ _ _ _ W) HW.out).mpr ?_; clear HW HLK))
  generalize w2.heap.size = E2 at *
  go_wp2_with (first | ((with_reducible refine gate_dst (N := 25) rfl ?_); refine gate_guard (by first | rfl | exact wanted_on rfl rfl rfl rfl) ?_; refine wpList_load_row rfl 29 (.tmp 1) rfl _ rfl 29 (FC (F0)) (0, 0) _ (HST.out.fr (E, F0) (by simp)) Tryd.underlying29 rfl (by kernel_rfl) ?_) | ((with_reducible refine gate_dst (N := 26) rfl ?_); refine gate_guard (by first | rfl | exact wanted_on rfl rfl rfl rfl) ?_; refine wpList_load_row rfl 29 (.tmp 4) rfl _ rfl 29 (FC (F0)) (0, 0) _ (HST.out.fr (E2, F0) (by simp)) Tryd.underlying29 rfl (by kernel_rfl) ?_) | ((with_reducible refine gate_dst (N := 35) rfl ?_); refine gate_guard (by first | rfl | exact wanted_on rfl rfl rfl rfl) ?_; refine wpList_load_row rfl 29 (.tmp 1) rfl _ rfl 29 (FC (F0)) (0, 0) _ (HST.out.fr (E, F0) (by simp)) Tryd.underlying29 rfl (by kernel_rfl) ?_) | (go_at_call 12; (with_reducible refine (HT.out _ HST.out.tab).mono ?_); rintro e w3 ⟨rfl, hb⟩; have n0_ := Aside0.mk (HST.out.on hb); clear HST hb; have HST := n0_; clear n0_))
  all_goals go_ret
  all_goals exact ⟨rfl, HST.out.below⟩
end Go.Proofs.YtkcaifpmceoflaaDoor.Frm

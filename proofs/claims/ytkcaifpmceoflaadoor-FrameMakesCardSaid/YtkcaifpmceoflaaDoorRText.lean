/- The document's Text of a frame. Conditions: those that each statement names. -/
import Derived.Test.YtkcaifpmceoflaaDoorCells
import Derived.Deep.RegionHeldLaw
namespace Go.Proofs.YtkcaifpmceoflaaDoor.Frm
open Go.RowKit Go.Proofs.YtkcaifpmceoflaaDoorW.PrintWords Go.Proofs.YtkcaifpmceoflaaDoorW.PrintLast Go.Proofs.YtkcaifpmceoflaaDoorW.PrintMore
set_option linter.unusedVariables false
set_option linter.unusedSimpArgs false
theorem dgs_step (n : Nat) : dgs (n : Int) = if n < 10 then (⟨#[UInt8.ofNat (48 + n)]⟩ : ByteArray) else dgs ((n / 10 : Nat) : Int) ++ (⟨#[UInt8.ofNat (48 + n % 10)]⟩ : ByteArray) := by
  unfold dgs
  rw [Int.toNat_natCast, Int.toNat_natCast]
  conv => lhs; rw [Lib.decDigits]
  split
  · rfl
  · apply ByteArray.ext
    rw [ByteArray.data_append]
    apply Array.toList_inj.1
    simp
theorem dig_one (n : Nat) (h : n < 10) : strOfNums [(48 + (n : Int)) % 256] = (⟨#[UInt8.ofNat (48 + n)]⟩ : ByteArray) := by
  unfold strOfNums
  have e : ((48 + (n : Int)) % 256).toNat = 48 + n := by omega
  simp only [List.map_cons, List.map_nil, e]
theorem rdig (n : Nat) : ∀ (k : Nat) (acc : ByteArray), n < k → acc.size + n ≤ 8589934592 → Own.fuglemanref03_Digits.l0 k (n : Int) acc = some (dgs (n : Int) ++ acc) := by
  induction n using Nat.strongRecOn with
  | ind n ih =>
    intro k acc hk ha
    obtain ⟨k, rfl⟩ : ∃ m, k = m + 1 := ⟨k - 1, by omega⟩
    unfold Own.fuglemanref03_Digits.l0
    rw [dgs_step]
    have o1 : ∀ c, (⟨#[c]⟩ : ByteArray).size = 1 := fun _ => rfl
    by_cases h : n < 10
    · have e1 : wrap64 (48 + (n : Int)) % 256 = (48 + (n : Int)) % 256 := by unfold wrap64; omega
      rw [if_neg (by omega), Option.bind_some, e1, dig_one n h, if_pos h, o1, if_pos (show 1 + acc.size ≤ 9223372036854775807 by omega)]
    · have e0 : Int.tmod (n : Int) 10 = ((n % 10 : Nat) : Int) := by rw [Int.tmod_eq_emod_of_nonneg (by omega)]; omega
      have e1 : wrap64 (48 + ((n % 10 : Nat) : Int)) % 256 = (48 + ((n % 10 : Nat) : Int)) % 256 := by unfold wrap64; omega
      have e2 : wrap64 (Int.tdiv (n : Int) 10) = ((n / 10 : Nat) : Int) := by rw [Int.tdiv_eq_ediv_of_nonneg (by omega)]; unfold wrap64; omega
      have hsz : ((⟨#[UInt8.ofNat (48 + n % 10)]⟩ : ByteArray) ++ acc).size = 1 + acc.size := by rw [ByteArray.size_append]; rfl
      rw [if_pos (by omega), Option.bind_some, e0, e1, dig_one (n % 10) (by omega), o1, if_pos (show 1 + acc.size ≤ 9223372036854775807 by omega), e2, ih (n / 10) (by omega) k _ (by omega) (by rw [hsz]; omega), if_neg h, ByteArray.append_assoc]
theorem rdig_f (n : Int) (h0 : 0 ≤ n) (hn : n ≤ 4294967296) : Own.fuglemanref03_Digits.f 4294967297 n = some (dgs n) := by
  obtain ⟨m, rfl⟩ := Int.eq_ofNat_of_zero_le h0
  unfold Own.fuglemanref03_Digits.f
  have h := rdig m 4294967297 ⟨#[]⟩ (by omega) (by show 0 + m ≤ _; omega)
  rw [h]
  congr 1
  apply ByteArray.ext
  rw [ByteArray.data_append]
  exact Array.append_empty
theorem rep_f (a b c : Int) (ha : 0 ≤ a ∧ a < 65536) (hb : 0 ≤ b ∧ b < 256) (hc : 0 ≤ c ∧ c < 65536) : Own.fuglemanref03_Text.f 4294967297 a b c = some (etext a b c) := by
  have z1 := dgs_size a (by omega)
  have z2 := dgs_size b (by omega)
  have z3 := dgs_size c (by omega)
  unfold Own.fuglemanref03_Text.f etext
  rw [show wrap64 a = a by unfold wrap64; omega, show wrap64 b = b by unfold wrap64; omega, show wrap64 c = c by unfold wrap64; omega, rdig_f a ha.1 (by omega), rdig_f b hb.1 (by omega), rdig_f c hc.1 (by omega)]
  simp only [Option.bind_some, ByteArray.size_append]
  have o1 : (⟨#[46]⟩ : ByteArray).size = 1 := rfl
  rw [o1, if_pos (by omega), if_pos (by omega), if_pos (by omega), if_pos (by omega)]
theorem dig_c (w : World) (n : Int) (h0 : 0 ≤ n) (hn : n ≤ 4294967296) : Calls Tryd.prog 35 #[.int .i64 n] w fun e w' => e = .returned (.string (dgs n)) ∧ Below w.heap.size w w' := Own.fuglemanref03_Digits.calls _ n _ w (rdig_f n h0 hn)
theorem rep_c (w : World) (a b c : Int) (ha : 0 ≤ a ∧ a < 65536) (hb : 0 ≤ b ∧ b < 256) (hc : 0 ≤ c ∧ c < 65536) : Calls Tryd.prog 36 #[.agg #[.int .u16 a, .int .u8 b, .int .u16 c]] w fun e w' => e = .returned (.string (etext a b c)) ∧ Below w.heap.size w w' := Own.fuglemanref03_Text.calls _ a b c _ w (rep_f a b c ha hb hc)
/-- A text's words, one behind the other. -/
theorem txt_two (a b : ByteArray) (l : List ByteArray) : txt (a :: b :: l) = a ++ (⟨#[32]⟩ : ByteArray) ++ txt (b :: l) := by
  unfold txt
  apply ByteArray.ext
  rw [ByteArray.data_append, ByteArray.data_append]
  apply Array.toList_inj.1
  rw [Array.toList_append, Array.toList_append]
  simp [Lib.join, List.intercalate]
theorem txt_one (a : ByteArray) : txt [a] = a := by
  unfold txt
  apply ByteArray.ext
  apply Array.toList_inj.1
  simp [Lib.join, List.intercalate]
/-! ### the walk -/
theorem names_at (W : World) : (W.alloc (.cells #[.string ⟨#[63]⟩, .string ⟨#[116, 111, 107, 101, 110]⟩, .string ⟨#[112, 111, 108, 108]⟩, .string ⟨#[115, 116, 97, 116, 117, 115]⟩, .string ⟨#[100, 97, 116, 97]⟩, .string ⟨#[108, 101, 97, 118, 101]⟩] 9)).heap[W.heap.size]? = some (.cells #[.string ⟨#[63]⟩, .string ⟨#[116, 111, 107, 101, 110]⟩, .string ⟨#[112, 111, 108, 108]⟩, .string ⟨#[115, 116, 97, 116, 117, 115]⟩, .string ⟨#[100, 97, 116, 97]⟩, .string ⟨#[108, 101, 97, 118, 101]⟩] 9 (0, 0)) := by
  rw [show (W.alloc (.cells #[.string ⟨#[63]⟩, .string ⟨#[116, 111, 107, 101, 110]⟩, .string ⟨#[112, 111, 108, 108]⟩, .string ⟨#[115, 116, 97, 116, 117, 115]⟩, .string ⟨#[100, 97, 116, 97]⟩, .string ⟨#[108, 101, 97, 118, 101]⟩] 9)).heap = W.heap.push (.cells #[.string ⟨#[63]⟩, .string ⟨#[116, 111, 107, 101, 110]⟩, .string ⟨#[112, 111, 108, 108]⟩, .string ⟨#[115, 116, 97, 116, 117, 115]⟩, .string ⟨#[100, 97, 116, 97]⟩, .string ⟨#[108, 101, 97, 118, 101]⟩] 9) from rfl, Array.getElem?_push, if_pos rfl]
set_option maxHeartbeats 8000000 in
set_option maxRecDepth 100000 in
theorem rtext_k1 (w : World) (f : Fr) (hr : Rng f) (ht : Own.Tabs w) (hk : f.kind = 1) :
    Calls Tryd.prog 13 #[.agg (FC f)] w fun e w' => e = .returned (.string ((⟨#[116, 111, 107, 101, 110]⟩ : ByteArray) ++ (⟨#[32]⟩ : ByteArray) ++ dgs f.src ++ (⟨#[32, 62, 32]⟩ : ByteArray) ++ dgs f.dst ++ (⟨#[32]⟩ : ByteArray) ++ etext f.ec f.ea f.ei ++ (⟨#[47]⟩ : ByteArray) ++ dgs f.hop)) ∧ Below w.heap.size w w' := by
  have b_src := hr.src
  have HC_src := Aside0.mk fun W : World => dig_c W (f.src) b_src.1 (by omega)
  have u_src : IntKind.i64.wrap f.src = f.src := IntWalk.i64_in _ (by omega)
  have z_src := dgs_size (f.src) (by omega)
  have b_hop := hr.hop
  have HC_hop := Aside0.mk fun W : World => dig_c W (f.hop) b_hop.1 (by omega)
  have u_hop : IntKind.i64.wrap f.hop = f.hop := IntWalk.i64_in _ (by omega)
  have z_hop := dgs_size (f.hop) (by omega)
  have b_dst := hr.dst
  have HC_dst := Aside0.mk fun W : World => dig_c W (f.dst) b_dst.1 (by omega)
  have u_dst : IntKind.i64.wrap f.dst = f.dst := IntWalk.i64_in _ (by omega)
  have z_dst := dgs_size (f.dst) (by omega)
  have HC_ep := Aside0.mk fun W : World => rep_c W f.ec f.ea f.ei hr.ec hr.ea hr.ei
  have z_ep := etext_size f.ec f.ea f.ei (by have := hr.ec; omega) (by have := hr.ea; omega) (by have := hr.ei; omega)
  obtain ⟨S_src, hS_src⟩ : ∃ S, dgs (f.src) = S := ⟨_, rfl⟩
  rw [hS_src] at HC_src z_src
  obtain ⟨S_hop, hS_hop⟩ : ∃ S, dgs (f.hop) = S := ⟨_, rfl⟩
  rw [hS_hop] at HC_hop z_hop
  obtain ⟨S_dst, hS_dst⟩ : ∃ S, dgs (f.dst) = S := ⟨_, rfl⟩
  rw [hS_dst] at HC_dst z_dst
  obtain ⟨S_ep, hS_ep⟩ : ∃ S, etext f.ec f.ea f.ei = S := ⟨_, rfl⟩
  rw [hS_ep] at HC_ep z_ep
  rw [hS_src, hS_hop, hS_dst, hS_ep]
  clear hS_src
  clear hS_hop
  clear hS_dst
  clear hS_ep
  have s2_0 : (9223372036854775807 < 5 + 1 + S_src.size) = False := eq_false (by omega)
  have s2_1 : (9223372036854775807 < 6 + S_src.size) = False := eq_false (by omega)
  have s3_0 : (9223372036854775807 < 5 + 1 + S_src.size + 3) = False := eq_false (by omega)
  have s3_1 : (9223372036854775807 < 6 + S_src.size + 3) = False := eq_false (by omega)
  have s4_0 : (9223372036854775807 < 5 + 1 + S_src.size + 3 + S_dst.size) = False := eq_false (by omega)
  have s4_1 : (9223372036854775807 < 6 + S_src.size + 3 + S_dst.size) = False := eq_false (by omega)
  have s5_0 : (9223372036854775807 < 5 + 1 + S_src.size + 3 + S_dst.size + 1) = False := eq_false (by omega)
  have s5_1 : (9223372036854775807 < 6 + S_src.size + 3 + S_dst.size + 1) = False := eq_false (by omega)
  have s6_0 : (9223372036854775807 < 5 + 1 + S_src.size + 3 + S_dst.size + 1 + S_ep.size) = False := eq_false (by omega)
  have s6_1 : (9223372036854775807 < 6 + S_src.size + 3 + S_dst.size + 1 + S_ep.size) = False := eq_false (by omega)
  have s7_0 : (9223372036854775807 < 5 + 1 + S_src.size + 3 + S_dst.size + 1 + S_ep.size + 1) = False := eq_false (by omega)
  have s7_1 : (9223372036854775807 < 6 + S_src.size + 3 + S_dst.size + 1 + S_ep.size + 1) = False := eq_false (by omega)
  have s8_0 : (9223372036854775807 < 5 + 1 + S_src.size + 3 + S_dst.size + 1 + S_ep.size + 1 + S_hop.size) = False := eq_false (by omega)
  have s8_1 : (9223372036854775807 < 6 + S_src.size + 3 + S_dst.size + 1 + S_ep.size + 1 + S_hop.size) = False := eq_false (by omega)
  have HK := Aside0.mk hk
  clear hr hk b_src b_hop b_dst
  have HST := Aside0.mk ((St.start w ht).box f)
  have hx := HST.out.on ((Below.refl _ _).alloc (Nat.le_refl _) (.cells #[.string ⟨#[63]⟩, .string ⟨#[116, 111, 107, 101, 110]⟩, .string ⟨#[112, 111, 108, 108]⟩, .string ⟨#[115, 116, 97, 116, 117, 115]⟩, .string ⟨#[100, 97, 116, 97]⟩, .string ⟨#[108, 101, 97, 118, 101]⟩] 9))
  have hn := names_at (w.alloc (.cells (FC f) 29))
  rw [show (w.alloc (.cells (FC f) 29)).heap.size = w.heap.size + 1 by rw [show (w.alloc (.cells (FC f) 29)).heap = w.heap.push (.cells (FC f) 29) from rfl, Array.size_push]] at hn
  have HX := Aside0.mk hx
  have HNM := Aside0.mk hn
  clear ht HST hx hn
  go_enter Tryd.func13, Tryd.ntmps13
  go_upto_region 2 with (fail)
  generalize (w.alloc (.cells (FC f) 29)).alloc (.cells #[.string ⟨#[63]⟩, .string ⟨#[116, 111, 107, 101, 110]⟩, .string ⟨#[112, 111, 108, 108]⟩, .string ⟨#[115, 116, 97, 116, 117, 115]⟩, .string ⟨#[100, 97, 116, 97]⟩, .string ⟨#[108, 101, 97, 118, 101]⟩] 9) = W1 at *
  generalize w.heap.size + 1 = N at *
  generalize w.heap.size = E at *
  obtain ⟨c0, c9, c10, c11, c12⟩ := (HX.out.fr (E, f) (by simp)).four
  obtain ⟨e1, e2, e3, e4, e5, e6, e7, e8⟩ := (HX.out.fr (E, f) (by simp)).nine
  rw [HK.out] at c0
  have nk : W1.cell? ⟨N, 1, none⟩ = some (.string ⟨#[116, 111, 107, 101, 110]⟩) := blk_cell HNM.out 1
  go_upto_region 8 with ((go_at_call 35; (with_reducible refine (HC_dst.out _).mono ?_); rintro e wq ⟨rfl, hb⟩; have n0_ := Aside0.mk (HX.out.on (by with_reducible exact hb)); clear HX hb; have HX := n0_; clear n0_; clear c0 c9 c10 c11 c12 e1 e2 e3 e4 e5 e6 e7 e8; clear nk; obtain ⟨c0, c9, c10, c11, c12⟩ := (HX.out.fr (E, f) (by simp)).four; obtain ⟨e1, e2, e3, e4, e5, e6, e7, e8⟩ := (HX.out.fr (E, f) (by simp)).nine; rw [HK.out] at c0))
  clear c0 c9 c10 c11 c12 e1 e2 e3 e4 e5 e6 e7 e8
  have n0_ := Aside0.mk HX.out.drew
  clear HX
  have HX := n0_
  clear n0_
  go_region_held_law (fun w' => w'.cell? ⟨E, 1, none⟩ = some (.int .u8 f.src) ∧ w'.cell? ⟨E, 2, none⟩ = some (.int .u8 f.dst) ∧ w'.cell? ⟨E, 3, none⟩ = some (.int .u16 f.sinc) ∧ w'.cell? ⟨E, 4, none⟩ = some (.int .u16 f.dinc) ∧ w'.cell? ⟨E, 5, none⟩ = some (.int .u16 f.ec) ∧ w'.cell? ⟨E, 6, none⟩ = some (.int .u8 f.ea) ∧ w'.cell? ⟨E, 7, none⟩ = some (.int .u16 f.ei) ∧ w'.cell? ⟨E, 8, none⟩ = some (.int .u16 f.hop)) (exact (HX.out.fr (E, f) (by simp)).nine) (first | (go_at_call 35; (with_reducible refine (HC_src.out _).mono ?_); rintro e wq ⟨rfl, hb⟩; have n0_ := Aside0.mk (HX.out.on (by with_reducible exact hb)); clear HX hb; have HX := n0_; clear n0_) | (go_at_call 36; (with_reducible refine (HC_ep.out _).mono ?_); rintro e wq ⟨rfl, hb⟩; have n0_ := Aside0.mk (HX.out.on (by with_reducible exact hb)); clear HX hb; have HX := n0_; clear n0_) | (go_at_call 35; (with_reducible refine (HC_hop.out _).mono ?_); rintro e wq ⟨rfl, hb⟩; have n0_ := Aside0.mk (HX.out.on (by with_reducible exact hb)); clear HX hb; have HX := n0_; clear n0_))
  obtain ⟨c0, c9, c10, c11, c12⟩ := (HX.out.fr (E, f) (by simp)).four
  obtain ⟨e1, e2, e3, e4, e5, e6, e7, e8⟩ := (HX.out.fr (E, f) (by simp)).nine
  rw [HK.out] at c0
  go_wp2_with (fail)
  go_ret
  exact ⟨rfl, HX.out.below⟩
set_option maxHeartbeats 8000000 in
set_option maxRecDepth 100000 in
theorem rtext_k2 (w : World) (f : Fr) (hr : Rng f) (ht : Own.Tabs w) (hk : f.kind = 2) :
    Calls Tryd.prog 13 #[.agg (FC f)] w fun e w' => e = .returned (.string ((⟨#[112, 111, 108, 108]⟩ : ByteArray) ++ (⟨#[32]⟩ : ByteArray) ++ dgs f.src ++ (⟨#[32, 62, 32]⟩ : ByteArray) ++ dgs f.dst ++ (⟨#[32]⟩ : ByteArray) ++ etext f.ec f.ea f.ei ++ (⟨#[47]⟩ : ByteArray) ++ dgs f.hop)) ∧ Below w.heap.size w w' := by
  have b_src := hr.src
  have HC_src := Aside0.mk fun W : World => dig_c W (f.src) b_src.1 (by omega)
  have u_src : IntKind.i64.wrap f.src = f.src := IntWalk.i64_in _ (by omega)
  have z_src := dgs_size (f.src) (by omega)
  have b_hop := hr.hop
  have HC_hop := Aside0.mk fun W : World => dig_c W (f.hop) b_hop.1 (by omega)
  have u_hop : IntKind.i64.wrap f.hop = f.hop := IntWalk.i64_in _ (by omega)
  have z_hop := dgs_size (f.hop) (by omega)
  have b_dst := hr.dst
  have HC_dst := Aside0.mk fun W : World => dig_c W (f.dst) b_dst.1 (by omega)
  have u_dst : IntKind.i64.wrap f.dst = f.dst := IntWalk.i64_in _ (by omega)
  have z_dst := dgs_size (f.dst) (by omega)
  have HC_ep := Aside0.mk fun W : World => rep_c W f.ec f.ea f.ei hr.ec hr.ea hr.ei
  have z_ep := etext_size f.ec f.ea f.ei (by have := hr.ec; omega) (by have := hr.ea; omega) (by have := hr.ei; omega)
  obtain ⟨S_src, hS_src⟩ : ∃ S, dgs (f.src) = S := ⟨_, rfl⟩
  rw [hS_src] at HC_src z_src
  obtain ⟨S_hop, hS_hop⟩ : ∃ S, dgs (f.hop) = S := ⟨_, rfl⟩
  rw [hS_hop] at HC_hop z_hop
  obtain ⟨S_dst, hS_dst⟩ : ∃ S, dgs (f.dst) = S := ⟨_, rfl⟩
  rw [hS_dst] at HC_dst z_dst
  obtain ⟨S_ep, hS_ep⟩ : ∃ S, etext f.ec f.ea f.ei = S := ⟨_, rfl⟩
  rw [hS_ep] at HC_ep z_ep
  rw [hS_src, hS_hop, hS_dst, hS_ep]
  clear hS_src
  clear hS_hop
  clear hS_dst
  clear hS_ep
  have s2_0 : (9223372036854775807 < 4 + 1 + S_src.size) = False := eq_false (by omega)
  have s2_1 : (9223372036854775807 < 5 + S_src.size) = False := eq_false (by omega)
  have s3_0 : (9223372036854775807 < 4 + 1 + S_src.size + 3) = False := eq_false (by omega)
  have s3_1 : (9223372036854775807 < 5 + S_src.size + 3) = False := eq_false (by omega)
  have s4_0 : (9223372036854775807 < 4 + 1 + S_src.size + 3 + S_dst.size) = False := eq_false (by omega)
  have s4_1 : (9223372036854775807 < 5 + S_src.size + 3 + S_dst.size) = False := eq_false (by omega)
  have s5_0 : (9223372036854775807 < 4 + 1 + S_src.size + 3 + S_dst.size + 1) = False := eq_false (by omega)
  have s5_1 : (9223372036854775807 < 5 + S_src.size + 3 + S_dst.size + 1) = False := eq_false (by omega)
  have s6_0 : (9223372036854775807 < 4 + 1 + S_src.size + 3 + S_dst.size + 1 + S_ep.size) = False := eq_false (by omega)
  have s6_1 : (9223372036854775807 < 5 + S_src.size + 3 + S_dst.size + 1 + S_ep.size) = False := eq_false (by omega)
  have s7_0 : (9223372036854775807 < 4 + 1 + S_src.size + 3 + S_dst.size + 1 + S_ep.size + 1) = False := eq_false (by omega)
  have s7_1 : (9223372036854775807 < 5 + S_src.size + 3 + S_dst.size + 1 + S_ep.size + 1) = False := eq_false (by omega)
  have s8_0 : (9223372036854775807 < 4 + 1 + S_src.size + 3 + S_dst.size + 1 + S_ep.size + 1 + S_hop.size) = False := eq_false (by omega)
  have s8_1 : (9223372036854775807 < 5 + S_src.size + 3 + S_dst.size + 1 + S_ep.size + 1 + S_hop.size) = False := eq_false (by omega)
  have HK := Aside0.mk hk
  clear hr hk b_src b_hop b_dst
  have HST := Aside0.mk ((St.start w ht).box f)
  have hx := HST.out.on ((Below.refl _ _).alloc (Nat.le_refl _) (.cells #[.string ⟨#[63]⟩, .string ⟨#[116, 111, 107, 101, 110]⟩, .string ⟨#[112, 111, 108, 108]⟩, .string ⟨#[115, 116, 97, 116, 117, 115]⟩, .string ⟨#[100, 97, 116, 97]⟩, .string ⟨#[108, 101, 97, 118, 101]⟩] 9))
  have hn := names_at (w.alloc (.cells (FC f) 29))
  rw [show (w.alloc (.cells (FC f) 29)).heap.size = w.heap.size + 1 by rw [show (w.alloc (.cells (FC f) 29)).heap = w.heap.push (.cells (FC f) 29) from rfl, Array.size_push]] at hn
  have HX := Aside0.mk hx
  have HNM := Aside0.mk hn
  clear ht HST hx hn
  go_enter Tryd.func13, Tryd.ntmps13
  go_upto_region 2 with (fail)
  generalize (w.alloc (.cells (FC f) 29)).alloc (.cells #[.string ⟨#[63]⟩, .string ⟨#[116, 111, 107, 101, 110]⟩, .string ⟨#[112, 111, 108, 108]⟩, .string ⟨#[115, 116, 97, 116, 117, 115]⟩, .string ⟨#[100, 97, 116, 97]⟩, .string ⟨#[108, 101, 97, 118, 101]⟩] 9) = W1 at *
  generalize w.heap.size + 1 = N at *
  generalize w.heap.size = E at *
  obtain ⟨c0, c9, c10, c11, c12⟩ := (HX.out.fr (E, f) (by simp)).four
  obtain ⟨e1, e2, e3, e4, e5, e6, e7, e8⟩ := (HX.out.fr (E, f) (by simp)).nine
  rw [HK.out] at c0
  have nk : W1.cell? ⟨N, 2, none⟩ = some (.string ⟨#[112, 111, 108, 108]⟩) := blk_cell HNM.out 2
  go_upto_region 8 with ((go_at_call 35; (with_reducible refine (HC_dst.out _).mono ?_); rintro e wq ⟨rfl, hb⟩; have n0_ := Aside0.mk (HX.out.on (by with_reducible exact hb)); clear HX hb; have HX := n0_; clear n0_; clear c0 c9 c10 c11 c12 e1 e2 e3 e4 e5 e6 e7 e8; clear nk; obtain ⟨c0, c9, c10, c11, c12⟩ := (HX.out.fr (E, f) (by simp)).four; obtain ⟨e1, e2, e3, e4, e5, e6, e7, e8⟩ := (HX.out.fr (E, f) (by simp)).nine; rw [HK.out] at c0))
  clear c0 c9 c10 c11 c12 e1 e2 e3 e4 e5 e6 e7 e8
  have n0_ := Aside0.mk HX.out.drew
  clear HX
  have HX := n0_
  clear n0_
  go_region_held_law (fun w' => w'.cell? ⟨E, 1, none⟩ = some (.int .u8 f.src) ∧ w'.cell? ⟨E, 2, none⟩ = some (.int .u8 f.dst) ∧ w'.cell? ⟨E, 3, none⟩ = some (.int .u16 f.sinc) ∧ w'.cell? ⟨E, 4, none⟩ = some (.int .u16 f.dinc) ∧ w'.cell? ⟨E, 5, none⟩ = some (.int .u16 f.ec) ∧ w'.cell? ⟨E, 6, none⟩ = some (.int .u8 f.ea) ∧ w'.cell? ⟨E, 7, none⟩ = some (.int .u16 f.ei) ∧ w'.cell? ⟨E, 8, none⟩ = some (.int .u16 f.hop)) (exact (HX.out.fr (E, f) (by simp)).nine) (first | (go_at_call 35; (with_reducible refine (HC_src.out _).mono ?_); rintro e wq ⟨rfl, hb⟩; have n0_ := Aside0.mk (HX.out.on (by with_reducible exact hb)); clear HX hb; have HX := n0_; clear n0_) | (go_at_call 36; (with_reducible refine (HC_ep.out _).mono ?_); rintro e wq ⟨rfl, hb⟩; have n0_ := Aside0.mk (HX.out.on (by with_reducible exact hb)); clear HX hb; have HX := n0_; clear n0_) | (go_at_call 35; (with_reducible refine (HC_hop.out _).mono ?_); rintro e wq ⟨rfl, hb⟩; have n0_ := Aside0.mk (HX.out.on (by with_reducible exact hb)); clear HX hb; have HX := n0_; clear n0_))
  obtain ⟨c0, c9, c10, c11, c12⟩ := (HX.out.fr (E, f) (by simp)).four
  obtain ⟨e1, e2, e3, e4, e5, e6, e7, e8⟩ := (HX.out.fr (E, f) (by simp)).nine
  rw [HK.out] at c0
  go_wp2_with (fail)
  go_ret
  exact ⟨rfl, HX.out.below⟩
set_option maxHeartbeats 8000000 in
set_option maxRecDepth 100000 in
theorem rtext_k5 (w : World) (f : Fr) (hr : Rng f) (ht : Own.Tabs w) (hk : f.kind = 5) :
    Calls Tryd.prog 13 #[.agg (FC f)] w fun e w' => e = .returned (.string ((⟨#[108, 101, 97, 118, 101]⟩ : ByteArray) ++ (⟨#[32]⟩ : ByteArray) ++ dgs f.src ++ (⟨#[32, 62, 32]⟩ : ByteArray) ++ dgs f.dst ++ (⟨#[32]⟩ : ByteArray) ++ etext f.ec f.ea f.ei ++ (⟨#[47]⟩ : ByteArray) ++ dgs f.hop)) ∧ Below w.heap.size w w' := by
  have b_src := hr.src
  have HC_src := Aside0.mk fun W : World => dig_c W (f.src) b_src.1 (by omega)
  have u_src : IntKind.i64.wrap f.src = f.src := IntWalk.i64_in _ (by omega)
  have z_src := dgs_size (f.src) (by omega)
  have b_hop := hr.hop
  have HC_hop := Aside0.mk fun W : World => dig_c W (f.hop) b_hop.1 (by omega)
  have u_hop : IntKind.i64.wrap f.hop = f.hop := IntWalk.i64_in _ (by omega)
  have z_hop := dgs_size (f.hop) (by omega)
  have b_dst := hr.dst
  have HC_dst := Aside0.mk fun W : World => dig_c W (f.dst) b_dst.1 (by omega)
  have u_dst : IntKind.i64.wrap f.dst = f.dst := IntWalk.i64_in _ (by omega)
  have z_dst := dgs_size (f.dst) (by omega)
  have HC_ep := Aside0.mk fun W : World => rep_c W f.ec f.ea f.ei hr.ec hr.ea hr.ei
  have z_ep := etext_size f.ec f.ea f.ei (by have := hr.ec; omega) (by have := hr.ea; omega) (by have := hr.ei; omega)
  obtain ⟨S_src, hS_src⟩ : ∃ S, dgs (f.src) = S := ⟨_, rfl⟩
  rw [hS_src] at HC_src z_src
  obtain ⟨S_hop, hS_hop⟩ : ∃ S, dgs (f.hop) = S := ⟨_, rfl⟩
  rw [hS_hop] at HC_hop z_hop
  obtain ⟨S_dst, hS_dst⟩ : ∃ S, dgs (f.dst) = S := ⟨_, rfl⟩
  rw [hS_dst] at HC_dst z_dst
  obtain ⟨S_ep, hS_ep⟩ : ∃ S, etext f.ec f.ea f.ei = S := ⟨_, rfl⟩
  rw [hS_ep] at HC_ep z_ep
  rw [hS_src, hS_hop, hS_dst, hS_ep]
  clear hS_src
  clear hS_hop
  clear hS_dst
  clear hS_ep
  have s2_0 : (9223372036854775807 < 5 + 1 + S_src.size) = False := eq_false (by omega)
  have s2_1 : (9223372036854775807 < 6 + S_src.size) = False := eq_false (by omega)
  have s3_0 : (9223372036854775807 < 5 + 1 + S_src.size + 3) = False := eq_false (by omega)
  have s3_1 : (9223372036854775807 < 6 + S_src.size + 3) = False := eq_false (by omega)
  have s4_0 : (9223372036854775807 < 5 + 1 + S_src.size + 3 + S_dst.size) = False := eq_false (by omega)
  have s4_1 : (9223372036854775807 < 6 + S_src.size + 3 + S_dst.size) = False := eq_false (by omega)
  have s5_0 : (9223372036854775807 < 5 + 1 + S_src.size + 3 + S_dst.size + 1) = False := eq_false (by omega)
  have s5_1 : (9223372036854775807 < 6 + S_src.size + 3 + S_dst.size + 1) = False := eq_false (by omega)
  have s6_0 : (9223372036854775807 < 5 + 1 + S_src.size + 3 + S_dst.size + 1 + S_ep.size) = False := eq_false (by omega)
  have s6_1 : (9223372036854775807 < 6 + S_src.size + 3 + S_dst.size + 1 + S_ep.size) = False := eq_false (by omega)
  have s7_0 : (9223372036854775807 < 5 + 1 + S_src.size + 3 + S_dst.size + 1 + S_ep.size + 1) = False := eq_false (by omega)
  have s7_1 : (9223372036854775807 < 6 + S_src.size + 3 + S_dst.size + 1 + S_ep.size + 1) = False := eq_false (by omega)
  have s8_0 : (9223372036854775807 < 5 + 1 + S_src.size + 3 + S_dst.size + 1 + S_ep.size + 1 + S_hop.size) = False := eq_false (by omega)
  have s8_1 : (9223372036854775807 < 6 + S_src.size + 3 + S_dst.size + 1 + S_ep.size + 1 + S_hop.size) = False := eq_false (by omega)
  have HK := Aside0.mk hk
  clear hr hk b_src b_hop b_dst
  have HST := Aside0.mk ((St.start w ht).box f)
  have hx := HST.out.on ((Below.refl _ _).alloc (Nat.le_refl _) (.cells #[.string ⟨#[63]⟩, .string ⟨#[116, 111, 107, 101, 110]⟩, .string ⟨#[112, 111, 108, 108]⟩, .string ⟨#[115, 116, 97, 116, 117, 115]⟩, .string ⟨#[100, 97, 116, 97]⟩, .string ⟨#[108, 101, 97, 118, 101]⟩] 9))
  have hn := names_at (w.alloc (.cells (FC f) 29))
  rw [show (w.alloc (.cells (FC f) 29)).heap.size = w.heap.size + 1 by rw [show (w.alloc (.cells (FC f) 29)).heap = w.heap.push (.cells (FC f) 29) from rfl, Array.size_push]] at hn
  have HX := Aside0.mk hx
  have HNM := Aside0.mk hn
  clear ht HST hx hn
  go_enter Tryd.func13, Tryd.ntmps13
  go_upto_region 2 with (fail)
  generalize (w.alloc (.cells (FC f) 29)).alloc (.cells #[.string ⟨#[63]⟩, .string ⟨#[116, 111, 107, 101, 110]⟩, .string ⟨#[112, 111, 108, 108]⟩, .string ⟨#[115, 116, 97, 116, 117, 115]⟩, .string ⟨#[100, 97, 116, 97]⟩, .string ⟨#[108, 101, 97, 118, 101]⟩] 9) = W1 at *
  generalize w.heap.size + 1 = N at *
  generalize w.heap.size = E at *
  obtain ⟨c0, c9, c10, c11, c12⟩ := (HX.out.fr (E, f) (by simp)).four
  obtain ⟨e1, e2, e3, e4, e5, e6, e7, e8⟩ := (HX.out.fr (E, f) (by simp)).nine
  rw [HK.out] at c0
  have nk : W1.cell? ⟨N, 5, none⟩ = some (.string ⟨#[108, 101, 97, 118, 101]⟩) := blk_cell HNM.out 5
  go_upto_region 8 with ((go_at_call 35; (with_reducible refine (HC_dst.out _).mono ?_); rintro e wq ⟨rfl, hb⟩; have n0_ := Aside0.mk (HX.out.on (by with_reducible exact hb)); clear HX hb; have HX := n0_; clear n0_; clear c0 c9 c10 c11 c12 e1 e2 e3 e4 e5 e6 e7 e8; clear nk; obtain ⟨c0, c9, c10, c11, c12⟩ := (HX.out.fr (E, f) (by simp)).four; obtain ⟨e1, e2, e3, e4, e5, e6, e7, e8⟩ := (HX.out.fr (E, f) (by simp)).nine; rw [HK.out] at c0))
  clear c0 c9 c10 c11 c12 e1 e2 e3 e4 e5 e6 e7 e8
  have n0_ := Aside0.mk HX.out.drew
  clear HX
  have HX := n0_
  clear n0_
  go_region_held_law (fun w' => w'.cell? ⟨E, 1, none⟩ = some (.int .u8 f.src) ∧ w'.cell? ⟨E, 2, none⟩ = some (.int .u8 f.dst) ∧ w'.cell? ⟨E, 3, none⟩ = some (.int .u16 f.sinc) ∧ w'.cell? ⟨E, 4, none⟩ = some (.int .u16 f.dinc) ∧ w'.cell? ⟨E, 5, none⟩ = some (.int .u16 f.ec) ∧ w'.cell? ⟨E, 6, none⟩ = some (.int .u8 f.ea) ∧ w'.cell? ⟨E, 7, none⟩ = some (.int .u16 f.ei) ∧ w'.cell? ⟨E, 8, none⟩ = some (.int .u16 f.hop)) (exact (HX.out.fr (E, f) (by simp)).nine) (first | (go_at_call 35; (with_reducible refine (HC_src.out _).mono ?_); rintro e wq ⟨rfl, hb⟩; have n0_ := Aside0.mk (HX.out.on (by with_reducible exact hb)); clear HX hb; have HX := n0_; clear n0_) | (go_at_call 36; (with_reducible refine (HC_ep.out _).mono ?_); rintro e wq ⟨rfl, hb⟩; have n0_ := Aside0.mk (HX.out.on (by with_reducible exact hb)); clear HX hb; have HX := n0_; clear n0_) | (go_at_call 35; (with_reducible refine (HC_hop.out _).mono ?_); rintro e wq ⟨rfl, hb⟩; have n0_ := Aside0.mk (HX.out.on (by with_reducible exact hb)); clear HX hb; have HX := n0_; clear n0_))
  obtain ⟨c0, c9, c10, c11, c12⟩ := (HX.out.fr (E, f) (by simp)).four
  obtain ⟨e1, e2, e3, e4, e5, e6, e7, e8⟩ := (HX.out.fr (E, f) (by simp)).nine
  rw [HK.out] at c0
  go_wp2_with (fail)
  go_ret
  exact ⟨rfl, HX.out.below⟩
set_option maxHeartbeats 8000000 in
set_option maxRecDepth 100000 in
theorem rtext_no (w : World) (f : Fr) (hr : Rng f) (ht : Own.Tabs w) (hk : ¬ (1 ≤ f.kind ∧ f.kind ≤ 5)) :
    Calls Tryd.prog 13 #[.agg (FC f)] w fun e w' => e = .returned (.string ((⟨#[63]⟩ : ByteArray) ++ (⟨#[32]⟩ : ByteArray) ++ dgs f.src ++ (⟨#[32, 62, 32]⟩ : ByteArray) ++ dgs f.dst ++ (⟨#[32]⟩ : ByteArray) ++ etext f.ec f.ea f.ei ++ (⟨#[47]⟩ : ByteArray) ++ dgs f.hop)) ∧ Below w.heap.size w w' := by
  have b_src := hr.src
  have HC_src := Aside0.mk fun W : World => dig_c W (f.src) b_src.1 (by omega)
  have u_src : IntKind.i64.wrap f.src = f.src := IntWalk.i64_in _ (by omega)
  have z_src := dgs_size (f.src) (by omega)
  have b_hop := hr.hop
  have HC_hop := Aside0.mk fun W : World => dig_c W (f.hop) b_hop.1 (by omega)
  have u_hop : IntKind.i64.wrap f.hop = f.hop := IntWalk.i64_in _ (by omega)
  have z_hop := dgs_size (f.hop) (by omega)
  have b_dst := hr.dst
  have HC_dst := Aside0.mk fun W : World => dig_c W (f.dst) b_dst.1 (by omega)
  have u_dst : IntKind.i64.wrap f.dst = f.dst := IntWalk.i64_in _ (by omega)
  have z_dst := dgs_size (f.dst) (by omega)
  have HC_ep := Aside0.mk fun W : World => rep_c W f.ec f.ea f.ei hr.ec hr.ea hr.ei
  have z_ep := etext_size f.ec f.ea f.ei (by have := hr.ec; omega) (by have := hr.ea; omega) (by have := hr.ei; omega)
  obtain ⟨S_src, hS_src⟩ : ∃ S, dgs (f.src) = S := ⟨_, rfl⟩
  rw [hS_src] at HC_src z_src
  obtain ⟨S_hop, hS_hop⟩ : ∃ S, dgs (f.hop) = S := ⟨_, rfl⟩
  rw [hS_hop] at HC_hop z_hop
  obtain ⟨S_dst, hS_dst⟩ : ∃ S, dgs (f.dst) = S := ⟨_, rfl⟩
  rw [hS_dst] at HC_dst z_dst
  obtain ⟨S_ep, hS_ep⟩ : ∃ S, etext f.ec f.ea f.ei = S := ⟨_, rfl⟩
  rw [hS_ep] at HC_ep z_ep
  rw [hS_src, hS_hop, hS_dst, hS_ep]
  clear hS_src
  clear hS_hop
  clear hS_dst
  clear hS_ep
  have s2_0 : (9223372036854775807 < 1 + 1 + S_src.size) = False := eq_false (by omega)
  have s2_1 : (9223372036854775807 < 2 + S_src.size) = False := eq_false (by omega)
  have s3_0 : (9223372036854775807 < 1 + 1 + S_src.size + 3) = False := eq_false (by omega)
  have s3_1 : (9223372036854775807 < 2 + S_src.size + 3) = False := eq_false (by omega)
  have s4_0 : (9223372036854775807 < 1 + 1 + S_src.size + 3 + S_dst.size) = False := eq_false (by omega)
  have s4_1 : (9223372036854775807 < 2 + S_src.size + 3 + S_dst.size) = False := eq_false (by omega)
  have s5_0 : (9223372036854775807 < 1 + 1 + S_src.size + 3 + S_dst.size + 1) = False := eq_false (by omega)
  have s5_1 : (9223372036854775807 < 2 + S_src.size + 3 + S_dst.size + 1) = False := eq_false (by omega)
  have s6_0 : (9223372036854775807 < 1 + 1 + S_src.size + 3 + S_dst.size + 1 + S_ep.size) = False := eq_false (by omega)
  have s6_1 : (9223372036854775807 < 2 + S_src.size + 3 + S_dst.size + 1 + S_ep.size) = False := eq_false (by omega)
  have s7_0 : (9223372036854775807 < 1 + 1 + S_src.size + 3 + S_dst.size + 1 + S_ep.size + 1) = False := eq_false (by omega)
  have s7_1 : (9223372036854775807 < 2 + S_src.size + 3 + S_dst.size + 1 + S_ep.size + 1) = False := eq_false (by omega)
  have s8_0 : (9223372036854775807 < 1 + 1 + S_src.size + 3 + S_dst.size + 1 + S_ep.size + 1 + S_hop.size) = False := eq_false (by omega)
  have s8_1 : (9223372036854775807 < 2 + S_src.size + 3 + S_dst.size + 1 + S_ep.size + 1 + S_hop.size) = False := eq_false (by omega)
  have HK := Aside0.mk hk
  have q3 : (f.kind == 3) = false := beq_eq_false_iff_ne.2 (by omega)
  have q4 : (f.kind == 4) = false := beq_eq_false_iff_ne.2 (by omega)
  clear hr hk b_src b_hop b_dst
  have HST := Aside0.mk ((St.start w ht).box f)
  have hx := HST.out.on ((Below.refl _ _).alloc (Nat.le_refl _) (.cells #[.string ⟨#[63]⟩, .string ⟨#[116, 111, 107, 101, 110]⟩, .string ⟨#[112, 111, 108, 108]⟩, .string ⟨#[115, 116, 97, 116, 117, 115]⟩, .string ⟨#[100, 97, 116, 97]⟩, .string ⟨#[108, 101, 97, 118, 101]⟩] 9))
  have hn := names_at (w.alloc (.cells (FC f) 29))
  rw [show (w.alloc (.cells (FC f) 29)).heap.size = w.heap.size + 1 by rw [show (w.alloc (.cells (FC f) 29)).heap = w.heap.push (.cells (FC f) 29) from rfl, Array.size_push]] at hn
  have HX := Aside0.mk hx
  have HNM := Aside0.mk hn
  clear ht HST hx hn
  go_enter Tryd.func13, Tryd.ntmps13
  go_upto_region 2 with (fail)
  generalize (w.alloc (.cells (FC f) 29)).alloc (.cells #[.string ⟨#[63]⟩, .string ⟨#[116, 111, 107, 101, 110]⟩, .string ⟨#[112, 111, 108, 108]⟩, .string ⟨#[115, 116, 97, 116, 117, 115]⟩, .string ⟨#[100, 97, 116, 97]⟩, .string ⟨#[108, 101, 97, 118, 101]⟩] 9) = W1 at *
  generalize w.heap.size + 1 = N at *
  generalize w.heap.size = E at *
  obtain ⟨c0, c9, c10, c11, c12⟩ := (HX.out.fr (E, f) (by simp)).four
  obtain ⟨e1, e2, e3, e4, e5, e6, e7, e8⟩ := (HX.out.fr (E, f) (by simp)).nine
  by_cases h1 : 1 ≤ f.kind
  · have d1 : decide (1 ≤ f.kind) = true := decide_eq_true h1
    have d2 : decide (f.kind ≤ 5) = false := decide_eq_false (fun h => HK.out ⟨h1, h⟩)
    clear h1
    go_upto_region 8 with ((go_at_call 35; (with_reducible refine (HC_dst.out _).mono ?_); rintro e wq ⟨rfl, hb⟩; have n0_ := Aside0.mk (HX.out.on (by with_reducible exact hb)); clear HX hb; have HX := n0_; clear n0_; clear c0 c9 c10 c11 c12 e1 e2 e3 e4 e5 e6 e7 e8; obtain ⟨c0, c9, c10, c11, c12⟩ := (HX.out.fr (E, f) (by simp)).four; obtain ⟨e1, e2, e3, e4, e5, e6, e7, e8⟩ := (HX.out.fr (E, f) (by simp)).nine))
    clear c0 c9 c10 c11 c12 e1 e2 e3 e4 e5 e6 e7 e8
    have n0_ := Aside0.mk HX.out.drew
    clear HX
    have HX := n0_
    clear n0_
    go_region_held_law (fun w' => w'.cell? ⟨E, 1, none⟩ = some (.int .u8 f.src) ∧ w'.cell? ⟨E, 2, none⟩ = some (.int .u8 f.dst) ∧ w'.cell? ⟨E, 3, none⟩ = some (.int .u16 f.sinc) ∧ w'.cell? ⟨E, 4, none⟩ = some (.int .u16 f.dinc) ∧ w'.cell? ⟨E, 5, none⟩ = some (.int .u16 f.ec) ∧ w'.cell? ⟨E, 6, none⟩ = some (.int .u8 f.ea) ∧ w'.cell? ⟨E, 7, none⟩ = some (.int .u16 f.ei) ∧ w'.cell? ⟨E, 8, none⟩ = some (.int .u16 f.hop)) (exact (HX.out.fr (E, f) (by simp)).nine) (first | (go_at_call 35; (with_reducible refine (HC_src.out _).mono ?_); rintro e wq ⟨rfl, hb⟩; have n0_ := Aside0.mk (HX.out.on (by with_reducible exact hb)); clear HX hb; have HX := n0_; clear n0_) | (go_at_call 36; (with_reducible refine (HC_ep.out _).mono ?_); rintro e wq ⟨rfl, hb⟩; have n0_ := Aside0.mk (HX.out.on (by with_reducible exact hb)); clear HX hb; have HX := n0_; clear n0_) | (go_at_call 35; (with_reducible refine (HC_hop.out _).mono ?_); rintro e wq ⟨rfl, hb⟩; have n0_ := Aside0.mk (HX.out.on (by with_reducible exact hb)); clear HX hb; have HX := n0_; clear n0_))
    obtain ⟨c0, c9, c10, c11, c12⟩ := (HX.out.fr (E, f) (by simp)).four
    obtain ⟨e1, e2, e3, e4, e5, e6, e7, e8⟩ := (HX.out.fr (E, f) (by simp)).nine
    go_wp2_with (fail)
    go_ret
    exact ⟨rfl, HX.out.below⟩
  · have d1 : decide (1 ≤ f.kind) = false := decide_eq_false h1
    clear h1
    go_upto_region 8 with ((go_at_call 35; (with_reducible refine (HC_dst.out _).mono ?_); rintro e wq ⟨rfl, hb⟩; have n0_ := Aside0.mk (HX.out.on (by with_reducible exact hb)); clear HX hb; have HX := n0_; clear n0_; clear c0 c9 c10 c11 c12 e1 e2 e3 e4 e5 e6 e7 e8; obtain ⟨c0, c9, c10, c11, c12⟩ := (HX.out.fr (E, f) (by simp)).four; obtain ⟨e1, e2, e3, e4, e5, e6, e7, e8⟩ := (HX.out.fr (E, f) (by simp)).nine))
    clear c0 c9 c10 c11 c12 e1 e2 e3 e4 e5 e6 e7 e8
    have n0_ := Aside0.mk HX.out.drew
    clear HX
    have HX := n0_
    clear n0_
    go_region_held_law (fun w' => w'.cell? ⟨E, 1, none⟩ = some (.int .u8 f.src) ∧ w'.cell? ⟨E, 2, none⟩ = some (.int .u8 f.dst) ∧ w'.cell? ⟨E, 3, none⟩ = some (.int .u16 f.sinc) ∧ w'.cell? ⟨E, 4, none⟩ = some (.int .u16 f.dinc) ∧ w'.cell? ⟨E, 5, none⟩ = some (.int .u16 f.ec) ∧ w'.cell? ⟨E, 6, none⟩ = some (.int .u8 f.ea) ∧ w'.cell? ⟨E, 7, none⟩ = some (.int .u16 f.ei) ∧ w'.cell? ⟨E, 8, none⟩ = some (.int .u16 f.hop)) (exact (HX.out.fr (E, f) (by simp)).nine) (first | (go_at_call 35; (with_reducible refine (HC_src.out _).mono ?_); rintro e wq ⟨rfl, hb⟩; have n0_ := Aside0.mk (HX.out.on (by with_reducible exact hb)); clear HX hb; have HX := n0_; clear n0_) | (go_at_call 36; (with_reducible refine (HC_ep.out _).mono ?_); rintro e wq ⟨rfl, hb⟩; have n0_ := Aside0.mk (HX.out.on (by with_reducible exact hb)); clear HX hb; have HX := n0_; clear n0_) | (go_at_call 35; (with_reducible refine (HC_hop.out _).mono ?_); rintro e wq ⟨rfl, hb⟩; have n0_ := Aside0.mk (HX.out.on (by with_reducible exact hb)); clear HX hb; have HX := n0_; clear n0_))
    obtain ⟨c0, c9, c10, c11, c12⟩ := (HX.out.fr (E, f) (by simp)).four
    obtain ⟨e1, e2, e3, e4, e5, e6, e7, e8⟩ := (HX.out.fr (E, f) (by simp)).nine
    go_wp2_with (fail)
    go_ret
    exact ⟨rfl, HX.out.below⟩
set_option maxHeartbeats 8000000 in
set_option maxRecDepth 100000 in
theorem rtext_in (w : World) (f : Fr) (hr : Rng f) (ht : Own.Tabs w) (hk : f.kind = 3 ∧ f.wants = true) :
    Calls Tryd.prog 13 #[.agg (FC f)] w fun e w' => e = .returned (.string ((⟨#[115, 116, 97, 116, 117, 115]⟩ : ByteArray) ++ (⟨#[32]⟩ : ByteArray) ++ dgs f.src ++ (⟨#[32, 62, 32]⟩ : ByteArray) ++ dgs f.dst ++ (⟨#[32]⟩ : ByteArray) ++ etext f.ec f.ea f.ei ++ (⟨#[47]⟩ : ByteArray) ++ dgs f.hop ++ (⟨#[32, 104, 105, 103, 104, 32]⟩ : ByteArray) ++ etext f.hc f.ha f.hi ++ (⟨#[32, 105, 110]⟩ : ByteArray))) ∧ Below w.heap.size w w' := by
  have b_src := hr.src
  have HC_src := Aside0.mk fun W : World => dig_c W (f.src) b_src.1 (by omega)
  have u_src : IntKind.i64.wrap f.src = f.src := IntWalk.i64_in _ (by omega)
  have z_src := dgs_size (f.src) (by omega)
  have b_hop := hr.hop
  have HC_hop := Aside0.mk fun W : World => dig_c W (f.hop) b_hop.1 (by omega)
  have u_hop : IntKind.i64.wrap f.hop = f.hop := IntWalk.i64_in _ (by omega)
  have z_hop := dgs_size (f.hop) (by omega)
  have b_dst := hr.dst
  have HC_dst := Aside0.mk fun W : World => dig_c W (f.dst) b_dst.1 (by omega)
  have u_dst : IntKind.i64.wrap f.dst = f.dst := IntWalk.i64_in _ (by omega)
  have z_dst := dgs_size (f.dst) (by omega)
  have HC_ep := Aside0.mk fun W : World => rep_c W f.ec f.ea f.ei hr.ec hr.ea hr.ei
  have z_ep := etext_size f.ec f.ea f.ei (by have := hr.ec; omega) (by have := hr.ea; omega) (by have := hr.ei; omega)
  have HC_eh := Aside0.mk fun W : World => rep_c W f.hc f.ha f.hi hr.hc hr.ha hr.hi
  have z_eh := etext_size f.hc f.ha f.hi (by have := hr.hc; omega) (by have := hr.ha; omega) (by have := hr.hi; omega)
  obtain ⟨S_src, hS_src⟩ : ∃ S, dgs (f.src) = S := ⟨_, rfl⟩
  rw [hS_src] at HC_src z_src
  obtain ⟨S_hop, hS_hop⟩ : ∃ S, dgs (f.hop) = S := ⟨_, rfl⟩
  rw [hS_hop] at HC_hop z_hop
  obtain ⟨S_dst, hS_dst⟩ : ∃ S, dgs (f.dst) = S := ⟨_, rfl⟩
  rw [hS_dst] at HC_dst z_dst
  obtain ⟨S_ep, hS_ep⟩ : ∃ S, etext f.ec f.ea f.ei = S := ⟨_, rfl⟩
  rw [hS_ep] at HC_ep z_ep
  obtain ⟨S_eh, hS_eh⟩ : ∃ S, etext f.hc f.ha f.hi = S := ⟨_, rfl⟩
  rw [hS_eh] at HC_eh z_eh
  rw [hS_src, hS_hop, hS_dst, hS_ep, hS_eh]
  clear hS_src
  clear hS_hop
  clear hS_dst
  clear hS_ep
  clear hS_eh
  have s2_0 : (9223372036854775807 < 6 + 1 + S_src.size) = False := eq_false (by omega)
  have s2_1 : (9223372036854775807 < 7 + S_src.size) = False := eq_false (by omega)
  have s3_0 : (9223372036854775807 < 6 + 1 + S_src.size + 3) = False := eq_false (by omega)
  have s3_1 : (9223372036854775807 < 7 + S_src.size + 3) = False := eq_false (by omega)
  have s4_0 : (9223372036854775807 < 6 + 1 + S_src.size + 3 + S_dst.size) = False := eq_false (by omega)
  have s4_1 : (9223372036854775807 < 7 + S_src.size + 3 + S_dst.size) = False := eq_false (by omega)
  have s5_0 : (9223372036854775807 < 6 + 1 + S_src.size + 3 + S_dst.size + 1) = False := eq_false (by omega)
  have s5_1 : (9223372036854775807 < 7 + S_src.size + 3 + S_dst.size + 1) = False := eq_false (by omega)
  have s6_0 : (9223372036854775807 < 6 + 1 + S_src.size + 3 + S_dst.size + 1 + S_ep.size) = False := eq_false (by omega)
  have s6_1 : (9223372036854775807 < 7 + S_src.size + 3 + S_dst.size + 1 + S_ep.size) = False := eq_false (by omega)
  have s7_0 : (9223372036854775807 < 6 + 1 + S_src.size + 3 + S_dst.size + 1 + S_ep.size + 1) = False := eq_false (by omega)
  have s7_1 : (9223372036854775807 < 7 + S_src.size + 3 + S_dst.size + 1 + S_ep.size + 1) = False := eq_false (by omega)
  have s8_0 : (9223372036854775807 < 6 + 1 + S_src.size + 3 + S_dst.size + 1 + S_ep.size + 1 + S_hop.size) = False := eq_false (by omega)
  have s8_1 : (9223372036854775807 < 7 + S_src.size + 3 + S_dst.size + 1 + S_ep.size + 1 + S_hop.size) = False := eq_false (by omega)
  have s9_0 : (9223372036854775807 < 6 + 1 + S_src.size + 3 + S_dst.size + 1 + S_ep.size + 1 + S_hop.size + 6) = False := eq_false (by omega)
  have s9_1 : (9223372036854775807 < 7 + S_src.size + 3 + S_dst.size + 1 + S_ep.size + 1 + S_hop.size + 6) = False := eq_false (by omega)
  have s10_0 : (9223372036854775807 < 6 + 1 + S_src.size + 3 + S_dst.size + 1 + S_ep.size + 1 + S_hop.size + 6 + S_eh.size) = False := eq_false (by omega)
  have s10_1 : (9223372036854775807 < 7 + S_src.size + 3 + S_dst.size + 1 + S_ep.size + 1 + S_hop.size + 6 + S_eh.size) = False := eq_false (by omega)
  have s11_0 : (9223372036854775807 < 6 + 1 + S_src.size + 3 + S_dst.size + 1 + S_ep.size + 1 + S_hop.size + 6 + S_eh.size + 3) = False := eq_false (by omega)
  have s11_1 : (9223372036854775807 < 7 + S_src.size + 3 + S_dst.size + 1 + S_ep.size + 1 + S_hop.size + 6 + S_eh.size + 3) = False := eq_false (by omega)
  have HK := Aside0.mk hk.1
  have kw := hk.2
  clear hr hk b_src b_hop b_dst
  have HST := Aside0.mk ((St.start w ht).box f)
  have hx := HST.out.on ((Below.refl _ _).alloc (Nat.le_refl _) (.cells #[.string ⟨#[63]⟩, .string ⟨#[116, 111, 107, 101, 110]⟩, .string ⟨#[112, 111, 108, 108]⟩, .string ⟨#[115, 116, 97, 116, 117, 115]⟩, .string ⟨#[100, 97, 116, 97]⟩, .string ⟨#[108, 101, 97, 118, 101]⟩] 9))
  have hn := names_at (w.alloc (.cells (FC f) 29))
  rw [show (w.alloc (.cells (FC f) 29)).heap.size = w.heap.size + 1 by rw [show (w.alloc (.cells (FC f) 29)).heap = w.heap.push (.cells (FC f) 29) from rfl, Array.size_push]] at hn
  have HX := Aside0.mk hx
  have HNM := Aside0.mk hn
  clear ht HST hx hn
  go_enter Tryd.func13, Tryd.ntmps13
  go_upto_region 2 with (fail)
  generalize (w.alloc (.cells (FC f) 29)).alloc (.cells #[.string ⟨#[63]⟩, .string ⟨#[116, 111, 107, 101, 110]⟩, .string ⟨#[112, 111, 108, 108]⟩, .string ⟨#[115, 116, 97, 116, 117, 115]⟩, .string ⟨#[100, 97, 116, 97]⟩, .string ⟨#[108, 101, 97, 118, 101]⟩] 9) = W1 at *
  generalize w.heap.size + 1 = N at *
  generalize w.heap.size = E at *
  obtain ⟨c0, c9, c10, c11, c12⟩ := (HX.out.fr (E, f) (by simp)).four
  obtain ⟨e1, e2, e3, e4, e5, e6, e7, e8⟩ := (HX.out.fr (E, f) (by simp)).nine
  rw [HK.out] at c0
  have nk : W1.cell? ⟨N, 3, none⟩ = some (.string ⟨#[115, 116, 97, 116, 117, 115]⟩) := blk_cell HNM.out 3
  go_upto_region 8 with ((go_at_call 35; (with_reducible refine (HC_dst.out _).mono ?_); rintro e wq ⟨rfl, hb⟩; have n0_ := Aside0.mk (HX.out.on (by with_reducible exact hb)); clear HX hb; have HX := n0_; clear n0_; clear c0 c9 c10 c11 c12 e1 e2 e3 e4 e5 e6 e7 e8; clear nk; obtain ⟨c0, c9, c10, c11, c12⟩ := (HX.out.fr (E, f) (by simp)).four; obtain ⟨e1, e2, e3, e4, e5, e6, e7, e8⟩ := (HX.out.fr (E, f) (by simp)).nine; rw [HK.out] at c0))
  clear c0 c9 c10 c11 c12 e1 e2 e3 e4 e5 e6 e7 e8
  have n0_ := Aside0.mk HX.out.drew
  clear HX
  have HX := n0_
  clear n0_
  go_region_held_law (fun w' => w'.cell? ⟨E, 1, none⟩ = some (.int .u8 f.src) ∧ w'.cell? ⟨E, 2, none⟩ = some (.int .u8 f.dst) ∧ w'.cell? ⟨E, 3, none⟩ = some (.int .u16 f.sinc) ∧ w'.cell? ⟨E, 4, none⟩ = some (.int .u16 f.dinc) ∧ w'.cell? ⟨E, 5, none⟩ = some (.int .u16 f.ec) ∧ w'.cell? ⟨E, 6, none⟩ = some (.int .u8 f.ea) ∧ w'.cell? ⟨E, 7, none⟩ = some (.int .u16 f.ei) ∧ w'.cell? ⟨E, 8, none⟩ = some (.int .u16 f.hop)) (exact (HX.out.fr (E, f) (by simp)).nine) (first | (go_at_call 35; (with_reducible refine (HC_src.out _).mono ?_); rintro e wq ⟨rfl, hb⟩; have n0_ := Aside0.mk (HX.out.on (by with_reducible exact hb)); clear HX hb; have HX := n0_; clear n0_) | (go_at_call 36; (with_reducible refine (HC_ep.out _).mono ?_); rintro e wq ⟨rfl, hb⟩; have n0_ := Aside0.mk (HX.out.on (by with_reducible exact hb)); clear HX hb; have HX := n0_; clear n0_) | (go_at_call 35; (with_reducible refine (HC_hop.out _).mono ?_); rintro e wq ⟨rfl, hb⟩; have n0_ := Aside0.mk (HX.out.on (by with_reducible exact hb)); clear HX hb; have HX := n0_; clear n0_))
  obtain ⟨c0, c9, c10, c11, c12⟩ := (HX.out.fr (E, f) (by simp)).four
  obtain ⟨e1, e2, e3, e4, e5, e6, e7, e8⟩ := (HX.out.fr (E, f) (by simp)).nine
  rw [HK.out] at c0
  have KW := Aside0.mk kw
  clear kw
  rw [KW.out] at c12
  go_wp2_with (first | (go_at_call 36; (with_reducible refine (HC_eh.out _).mono ?_); rintro e wq ⟨rfl, hb⟩; have n0_ := Aside0.mk (HX.out.on (by with_reducible exact hb)); clear HX hb; have HX := n0_; clear n0_; clear c0 c9 c10 c11 c12 e1 e2 e3 e4 e5 e6 e7 e8; obtain ⟨c0, c9, c10, c11, c12⟩ := (HX.out.fr (E, f) (by simp)).four; obtain ⟨e1, e2, e3, e4, e5, e6, e7, e8⟩ := (HX.out.fr (E, f) (by simp)).nine; rw [HK.out] at c0; rw [KW.out] at c12))
  all_goals go_ret
  all_goals exact ⟨rfl, HX.out.below⟩
set_option maxHeartbeats 8000000 in
set_option maxRecDepth 100000 in
theorem rtext_out (w : World) (f : Fr) (hr : Rng f) (ht : Own.Tabs w) (hk : f.kind = 3 ∧ f.wants = false) :
    Calls Tryd.prog 13 #[.agg (FC f)] w fun e w' => e = .returned (.string ((⟨#[115, 116, 97, 116, 117, 115]⟩ : ByteArray) ++ (⟨#[32]⟩ : ByteArray) ++ dgs f.src ++ (⟨#[32, 62, 32]⟩ : ByteArray) ++ dgs f.dst ++ (⟨#[32]⟩ : ByteArray) ++ etext f.ec f.ea f.ei ++ (⟨#[47]⟩ : ByteArray) ++ dgs f.hop ++ (⟨#[32, 104, 105, 103, 104, 32]⟩ : ByteArray) ++ etext f.hc f.ha f.hi ++ (⟨#[32, 111, 117, 116]⟩ : ByteArray))) ∧ Below w.heap.size w w' := by
  have b_src := hr.src
  have HC_src := Aside0.mk fun W : World => dig_c W (f.src) b_src.1 (by omega)
  have u_src : IntKind.i64.wrap f.src = f.src := IntWalk.i64_in _ (by omega)
  have z_src := dgs_size (f.src) (by omega)
  have b_hop := hr.hop
  have HC_hop := Aside0.mk fun W : World => dig_c W (f.hop) b_hop.1 (by omega)
  have u_hop : IntKind.i64.wrap f.hop = f.hop := IntWalk.i64_in _ (by omega)
  have z_hop := dgs_size (f.hop) (by omega)
  have b_dst := hr.dst
  have HC_dst := Aside0.mk fun W : World => dig_c W (f.dst) b_dst.1 (by omega)
  have u_dst : IntKind.i64.wrap f.dst = f.dst := IntWalk.i64_in _ (by omega)
  have z_dst := dgs_size (f.dst) (by omega)
  have HC_ep := Aside0.mk fun W : World => rep_c W f.ec f.ea f.ei hr.ec hr.ea hr.ei
  have z_ep := etext_size f.ec f.ea f.ei (by have := hr.ec; omega) (by have := hr.ea; omega) (by have := hr.ei; omega)
  have HC_eh := Aside0.mk fun W : World => rep_c W f.hc f.ha f.hi hr.hc hr.ha hr.hi
  have z_eh := etext_size f.hc f.ha f.hi (by have := hr.hc; omega) (by have := hr.ha; omega) (by have := hr.hi; omega)
  obtain ⟨S_src, hS_src⟩ : ∃ S, dgs (f.src) = S := ⟨_, rfl⟩
  rw [hS_src] at HC_src z_src
  obtain ⟨S_hop, hS_hop⟩ : ∃ S, dgs (f.hop) = S := ⟨_, rfl⟩
  rw [hS_hop] at HC_hop z_hop
  obtain ⟨S_dst, hS_dst⟩ : ∃ S, dgs (f.dst) = S := ⟨_, rfl⟩
  rw [hS_dst] at HC_dst z_dst
  obtain ⟨S_ep, hS_ep⟩ : ∃ S, etext f.ec f.ea f.ei = S := ⟨_, rfl⟩
  rw [hS_ep] at HC_ep z_ep
  obtain ⟨S_eh, hS_eh⟩ : ∃ S, etext f.hc f.ha f.hi = S := ⟨_, rfl⟩
  rw [hS_eh] at HC_eh z_eh
  rw [hS_src, hS_hop, hS_dst, hS_ep, hS_eh]
  clear hS_src
  clear hS_hop
  clear hS_dst
  clear hS_ep
  clear hS_eh
  have s2_0 : (9223372036854775807 < 6 + 1 + S_src.size) = False := eq_false (by omega)
  have s2_1 : (9223372036854775807 < 7 + S_src.size) = False := eq_false (by omega)
  have s3_0 : (9223372036854775807 < 6 + 1 + S_src.size + 3) = False := eq_false (by omega)
  have s3_1 : (9223372036854775807 < 7 + S_src.size + 3) = False := eq_false (by omega)
  have s4_0 : (9223372036854775807 < 6 + 1 + S_src.size + 3 + S_dst.size) = False := eq_false (by omega)
  have s4_1 : (9223372036854775807 < 7 + S_src.size + 3 + S_dst.size) = False := eq_false (by omega)
  have s5_0 : (9223372036854775807 < 6 + 1 + S_src.size + 3 + S_dst.size + 1) = False := eq_false (by omega)
  have s5_1 : (9223372036854775807 < 7 + S_src.size + 3 + S_dst.size + 1) = False := eq_false (by omega)
  have s6_0 : (9223372036854775807 < 6 + 1 + S_src.size + 3 + S_dst.size + 1 + S_ep.size) = False := eq_false (by omega)
  have s6_1 : (9223372036854775807 < 7 + S_src.size + 3 + S_dst.size + 1 + S_ep.size) = False := eq_false (by omega)
  have s7_0 : (9223372036854775807 < 6 + 1 + S_src.size + 3 + S_dst.size + 1 + S_ep.size + 1) = False := eq_false (by omega)
  have s7_1 : (9223372036854775807 < 7 + S_src.size + 3 + S_dst.size + 1 + S_ep.size + 1) = False := eq_false (by omega)
  have s8_0 : (9223372036854775807 < 6 + 1 + S_src.size + 3 + S_dst.size + 1 + S_ep.size + 1 + S_hop.size) = False := eq_false (by omega)
  have s8_1 : (9223372036854775807 < 7 + S_src.size + 3 + S_dst.size + 1 + S_ep.size + 1 + S_hop.size) = False := eq_false (by omega)
  have s9_0 : (9223372036854775807 < 6 + 1 + S_src.size + 3 + S_dst.size + 1 + S_ep.size + 1 + S_hop.size + 6) = False := eq_false (by omega)
  have s9_1 : (9223372036854775807 < 7 + S_src.size + 3 + S_dst.size + 1 + S_ep.size + 1 + S_hop.size + 6) = False := eq_false (by omega)
  have s10_0 : (9223372036854775807 < 6 + 1 + S_src.size + 3 + S_dst.size + 1 + S_ep.size + 1 + S_hop.size + 6 + S_eh.size) = False := eq_false (by omega)
  have s10_1 : (9223372036854775807 < 7 + S_src.size + 3 + S_dst.size + 1 + S_ep.size + 1 + S_hop.size + 6 + S_eh.size) = False := eq_false (by omega)
  have s11_0 : (9223372036854775807 < 6 + 1 + S_src.size + 3 + S_dst.size + 1 + S_ep.size + 1 + S_hop.size + 6 + S_eh.size + 4) = False := eq_false (by omega)
  have s11_1 : (9223372036854775807 < 7 + S_src.size + 3 + S_dst.size + 1 + S_ep.size + 1 + S_hop.size + 6 + S_eh.size + 4) = False := eq_false (by omega)
  have HK := Aside0.mk hk.1
  have kw := hk.2
  clear hr hk b_src b_hop b_dst
  have HST := Aside0.mk ((St.start w ht).box f)
  have hx := HST.out.on ((Below.refl _ _).alloc (Nat.le_refl _) (.cells #[.string ⟨#[63]⟩, .string ⟨#[116, 111, 107, 101, 110]⟩, .string ⟨#[112, 111, 108, 108]⟩, .string ⟨#[115, 116, 97, 116, 117, 115]⟩, .string ⟨#[100, 97, 116, 97]⟩, .string ⟨#[108, 101, 97, 118, 101]⟩] 9))
  have hn := names_at (w.alloc (.cells (FC f) 29))
  rw [show (w.alloc (.cells (FC f) 29)).heap.size = w.heap.size + 1 by rw [show (w.alloc (.cells (FC f) 29)).heap = w.heap.push (.cells (FC f) 29) from rfl, Array.size_push]] at hn
  have HX := Aside0.mk hx
  have HNM := Aside0.mk hn
  clear ht HST hx hn
  go_enter Tryd.func13, Tryd.ntmps13
  go_upto_region 2 with (fail)
  generalize (w.alloc (.cells (FC f) 29)).alloc (.cells #[.string ⟨#[63]⟩, .string ⟨#[116, 111, 107, 101, 110]⟩, .string ⟨#[112, 111, 108, 108]⟩, .string ⟨#[115, 116, 97, 116, 117, 115]⟩, .string ⟨#[100, 97, 116, 97]⟩, .string ⟨#[108, 101, 97, 118, 101]⟩] 9) = W1 at *
  generalize w.heap.size + 1 = N at *
  generalize w.heap.size = E at *
  obtain ⟨c0, c9, c10, c11, c12⟩ := (HX.out.fr (E, f) (by simp)).four
  obtain ⟨e1, e2, e3, e4, e5, e6, e7, e8⟩ := (HX.out.fr (E, f) (by simp)).nine
  rw [HK.out] at c0
  have nk : W1.cell? ⟨N, 3, none⟩ = some (.string ⟨#[115, 116, 97, 116, 117, 115]⟩) := blk_cell HNM.out 3
  go_upto_region 8 with ((go_at_call 35; (with_reducible refine (HC_dst.out _).mono ?_); rintro e wq ⟨rfl, hb⟩; have n0_ := Aside0.mk (HX.out.on (by with_reducible exact hb)); clear HX hb; have HX := n0_; clear n0_; clear c0 c9 c10 c11 c12 e1 e2 e3 e4 e5 e6 e7 e8; clear nk; obtain ⟨c0, c9, c10, c11, c12⟩ := (HX.out.fr (E, f) (by simp)).four; obtain ⟨e1, e2, e3, e4, e5, e6, e7, e8⟩ := (HX.out.fr (E, f) (by simp)).nine; rw [HK.out] at c0))
  clear c0 c9 c10 c11 c12 e1 e2 e3 e4 e5 e6 e7 e8
  have n0_ := Aside0.mk HX.out.drew
  clear HX
  have HX := n0_
  clear n0_
  go_region_held_law (fun w' => w'.cell? ⟨E, 1, none⟩ = some (.int .u8 f.src) ∧ w'.cell? ⟨E, 2, none⟩ = some (.int .u8 f.dst) ∧ w'.cell? ⟨E, 3, none⟩ = some (.int .u16 f.sinc) ∧ w'.cell? ⟨E, 4, none⟩ = some (.int .u16 f.dinc) ∧ w'.cell? ⟨E, 5, none⟩ = some (.int .u16 f.ec) ∧ w'.cell? ⟨E, 6, none⟩ = some (.int .u8 f.ea) ∧ w'.cell? ⟨E, 7, none⟩ = some (.int .u16 f.ei) ∧ w'.cell? ⟨E, 8, none⟩ = some (.int .u16 f.hop)) (exact (HX.out.fr (E, f) (by simp)).nine) (first | (go_at_call 35; (with_reducible refine (HC_src.out _).mono ?_); rintro e wq ⟨rfl, hb⟩; have n0_ := Aside0.mk (HX.out.on (by with_reducible exact hb)); clear HX hb; have HX := n0_; clear n0_) | (go_at_call 36; (with_reducible refine (HC_ep.out _).mono ?_); rintro e wq ⟨rfl, hb⟩; have n0_ := Aside0.mk (HX.out.on (by with_reducible exact hb)); clear HX hb; have HX := n0_; clear n0_) | (go_at_call 35; (with_reducible refine (HC_hop.out _).mono ?_); rintro e wq ⟨rfl, hb⟩; have n0_ := Aside0.mk (HX.out.on (by with_reducible exact hb)); clear HX hb; have HX := n0_; clear n0_))
  obtain ⟨c0, c9, c10, c11, c12⟩ := (HX.out.fr (E, f) (by simp)).four
  obtain ⟨e1, e2, e3, e4, e5, e6, e7, e8⟩ := (HX.out.fr (E, f) (by simp)).nine
  rw [HK.out] at c0
  have KW := Aside0.mk kw
  clear kw
  rw [KW.out] at c12
  go_wp2_with (first | (go_at_call 36; (with_reducible refine (HC_eh.out _).mono ?_); rintro e wq ⟨rfl, hb⟩; have n0_ := Aside0.mk (HX.out.on (by with_reducible exact hb)); clear HX hb; have HX := n0_; clear n0_; clear c0 c9 c10 c11 c12 e1 e2 e3 e4 e5 e6 e7 e8; obtain ⟨c0, c9, c10, c11, c12⟩ := (HX.out.fr (E, f) (by simp)).four; obtain ⟨e1, e2, e3, e4, e5, e6, e7, e8⟩ := (HX.out.fr (E, f) (by simp)).nine; rw [HK.out] at c0; rw [KW.out] at c12))
  all_goals go_ret
  all_goals exact ⟨rfl, HX.out.below⟩
set_option maxHeartbeats 8000000 in
set_option maxRecDepth 100000 in
theorem rtext_k4 (w : World) (f : Fr) (hr : Rng f) (ht : Own.Tabs w) (hk : f.kind = 4) :
    Calls Tryd.prog 13 #[.agg (FC f)] w fun e w' => e = .returned (.string ((⟨#[100, 97, 116, 97]⟩ : ByteArray) ++ (⟨#[32]⟩ : ByteArray) ++ dgs f.src ++ (⟨#[32, 62, 32]⟩ : ByteArray) ++ (⟨#[42]⟩ : ByteArray) ++ (⟨#[32]⟩ : ByteArray) ++ etext f.ec f.ea f.ei ++ (⟨#[47]⟩ : ByteArray) ++ dgs f.hop ++ (⟨#[32, 98, 108, 111, 99, 107, 32]⟩ : ByteArray) ++ dgs f.blk ++ (⟨#[32]⟩ : ByteArray) ++ dgs f.vinc ++ (⟨#[46]⟩ : ByteArray) ++ dgs f.vseq ++ (⟨#[32]⟩ : ByteArray) ++ dgs (f.part + 1) ++ (⟨#[32, 111, 102, 32]⟩ : ByteArray) ++ dgs f.parts)) ∧ Below w.heap.size w w' := by
  have b_src := hr.src
  have HC_src := Aside0.mk fun W : World => dig_c W (f.src) b_src.1 (by omega)
  have u_src : IntKind.i64.wrap f.src = f.src := IntWalk.i64_in _ (by omega)
  have z_src := dgs_size (f.src) (by omega)
  have b_hop := hr.hop
  have HC_hop := Aside0.mk fun W : World => dig_c W (f.hop) b_hop.1 (by omega)
  have u_hop : IntKind.i64.wrap f.hop = f.hop := IntWalk.i64_in _ (by omega)
  have z_hop := dgs_size (f.hop) (by omega)
  have b_dst := hr.dst
  have HC_dst := Aside0.mk fun W : World => dig_c W (f.dst) b_dst.1 (by omega)
  have u_dst : IntKind.i64.wrap f.dst = f.dst := IntWalk.i64_in _ (by omega)
  have z_dst := dgs_size (f.dst) (by omega)
  have b_blk := hr.blk
  have HC_blk := Aside0.mk fun W : World => dig_c W (f.blk) b_blk.1 (by omega)
  have u_blk : IntKind.i64.wrap f.blk = f.blk := IntWalk.i64_in _ (by omega)
  have z_blk := dgs_size (f.blk) (by omega)
  have b_vinc := hr.vinc
  have HC_vinc := Aside0.mk fun W : World => dig_c W (f.vinc) b_vinc.1 (by omega)
  have u_vinc : IntKind.i64.wrap f.vinc = f.vinc := IntWalk.i64_in _ (by omega)
  have z_vinc := dgs_size (f.vinc) (by omega)
  have b_vseq := hr.vseq
  have HC_vseq := Aside0.mk fun W : World => dig_c W (f.vseq) b_vseq.1 (by omega)
  have u_vseq : IntKind.i64.wrap f.vseq = f.vseq := IntWalk.i64_in _ (by omega)
  have z_vseq := dgs_size (f.vseq) (by omega)
  have b_parts := hr.parts
  have HC_parts := Aside0.mk fun W : World => dig_c W (f.parts) b_parts.1 (by omega)
  have u_parts : IntKind.i64.wrap f.parts = f.parts := IntWalk.i64_in _ (by omega)
  have z_parts := dgs_size (f.parts) (by omega)
  have b_part := hr.part
  have HC_part := Aside0.mk fun W : World => dig_c W (f.part + 1) (by omega) (by omega)
  have u_part : IntKind.i64.wrap f.part = f.part := IntWalk.i64_in _ (by omega)
  have u_part1 : IntKind.i64.wrap (f.part + 1) = f.part + 1 := IntWalk.i64_in _ (by omega)
  have z_part := dgs_size (f.part + 1) (by omega)
  have HC_ep := Aside0.mk fun W : World => rep_c W f.ec f.ea f.ei hr.ec hr.ea hr.ei
  have z_ep := etext_size f.ec f.ea f.ei (by have := hr.ec; omega) (by have := hr.ea; omega) (by have := hr.ei; omega)
  obtain ⟨S_src, hS_src⟩ : ∃ S, dgs (f.src) = S := ⟨_, rfl⟩
  rw [hS_src] at HC_src z_src
  obtain ⟨S_hop, hS_hop⟩ : ∃ S, dgs (f.hop) = S := ⟨_, rfl⟩
  rw [hS_hop] at HC_hop z_hop
  obtain ⟨S_dst, hS_dst⟩ : ∃ S, dgs (f.dst) = S := ⟨_, rfl⟩
  rw [hS_dst] at HC_dst z_dst
  obtain ⟨S_blk, hS_blk⟩ : ∃ S, dgs (f.blk) = S := ⟨_, rfl⟩
  rw [hS_blk] at HC_blk z_blk
  obtain ⟨S_vinc, hS_vinc⟩ : ∃ S, dgs (f.vinc) = S := ⟨_, rfl⟩
  rw [hS_vinc] at HC_vinc z_vinc
  obtain ⟨S_vseq, hS_vseq⟩ : ∃ S, dgs (f.vseq) = S := ⟨_, rfl⟩
  rw [hS_vseq] at HC_vseq z_vseq
  obtain ⟨S_parts, hS_parts⟩ : ∃ S, dgs (f.parts) = S := ⟨_, rfl⟩
  rw [hS_parts] at HC_parts z_parts
  obtain ⟨S_part, hS_part⟩ : ∃ S, dgs (f.part + 1) = S := ⟨_, rfl⟩
  rw [hS_part] at HC_part z_part
  obtain ⟨S_ep, hS_ep⟩ : ∃ S, etext f.ec f.ea f.ei = S := ⟨_, rfl⟩
  rw [hS_ep] at HC_ep z_ep
  rw [hS_src, hS_hop, hS_blk, hS_vinc, hS_vseq, hS_parts, hS_part, hS_ep]
  clear hS_src
  clear hS_hop
  clear hS_blk
  clear hS_vinc
  clear hS_vseq
  clear hS_parts
  clear hS_part
  clear hS_ep
  clear hS_dst
  have s2_0 : (9223372036854775807 < 4 + 1 + S_src.size) = False := eq_false (by omega)
  have s2_1 : (9223372036854775807 < 5 + S_src.size) = False := eq_false (by omega)
  have s3_0 : (9223372036854775807 < 4 + 1 + S_src.size + 3) = False := eq_false (by omega)
  have s3_1 : (9223372036854775807 < 5 + S_src.size + 3) = False := eq_false (by omega)
  have s4_0 : (9223372036854775807 < 4 + 1 + S_src.size + 3 + 1) = False := eq_false (by omega)
  have s4_1 : (9223372036854775807 < 5 + S_src.size + 4) = False := eq_false (by omega)
  have s5_0 : (9223372036854775807 < 4 + 1 + S_src.size + 3 + 1 + 1) = False := eq_false (by omega)
  have s5_1 : (9223372036854775807 < 5 + S_src.size + 5) = False := eq_false (by omega)
  have s6_0 : (9223372036854775807 < 4 + 1 + S_src.size + 3 + 1 + 1 + S_ep.size) = False := eq_false (by omega)
  have s6_1 : (9223372036854775807 < 5 + S_src.size + 5 + S_ep.size) = False := eq_false (by omega)
  have s7_0 : (9223372036854775807 < 4 + 1 + S_src.size + 3 + 1 + 1 + S_ep.size + 1) = False := eq_false (by omega)
  have s7_1 : (9223372036854775807 < 5 + S_src.size + 5 + S_ep.size + 1) = False := eq_false (by omega)
  have s8_0 : (9223372036854775807 < 4 + 1 + S_src.size + 3 + 1 + 1 + S_ep.size + 1 + S_hop.size) = False := eq_false (by omega)
  have s8_1 : (9223372036854775807 < 5 + S_src.size + 5 + S_ep.size + 1 + S_hop.size) = False := eq_false (by omega)
  have s9_0 : (9223372036854775807 < 4 + 1 + S_src.size + 3 + 1 + 1 + S_ep.size + 1 + S_hop.size + 7) = False := eq_false (by omega)
  have s9_1 : (9223372036854775807 < 5 + S_src.size + 5 + S_ep.size + 1 + S_hop.size + 7) = False := eq_false (by omega)
  have s10_0 : (9223372036854775807 < 4 + 1 + S_src.size + 3 + 1 + 1 + S_ep.size + 1 + S_hop.size + 7 + S_blk.size) = False := eq_false (by omega)
  have s10_1 : (9223372036854775807 < 5 + S_src.size + 5 + S_ep.size + 1 + S_hop.size + 7 + S_blk.size) = False := eq_false (by omega)
  have s11_0 : (9223372036854775807 < 4 + 1 + S_src.size + 3 + 1 + 1 + S_ep.size + 1 + S_hop.size + 7 + S_blk.size + 1) = False := eq_false (by omega)
  have s11_1 : (9223372036854775807 < 5 + S_src.size + 5 + S_ep.size + 1 + S_hop.size + 7 + S_blk.size + 1) = False := eq_false (by omega)
  have s12_0 : (9223372036854775807 < 4 + 1 + S_src.size + 3 + 1 + 1 + S_ep.size + 1 + S_hop.size + 7 + S_blk.size + 1 + S_vinc.size) = False := eq_false (by omega)
  have s12_1 : (9223372036854775807 < 5 + S_src.size + 5 + S_ep.size + 1 + S_hop.size + 7 + S_blk.size + 1 + S_vinc.size) = False := eq_false (by omega)
  have s13_0 : (9223372036854775807 < 4 + 1 + S_src.size + 3 + 1 + 1 + S_ep.size + 1 + S_hop.size + 7 + S_blk.size + 1 + S_vinc.size + 1) = False := eq_false (by omega)
  have s13_1 : (9223372036854775807 < 5 + S_src.size + 5 + S_ep.size + 1 + S_hop.size + 7 + S_blk.size + 1 + S_vinc.size + 1) = False := eq_false (by omega)
  have s14_0 : (9223372036854775807 < 4 + 1 + S_src.size + 3 + 1 + 1 + S_ep.size + 1 + S_hop.size + 7 + S_blk.size + 1 + S_vinc.size + 1 + S_vseq.size) = False := eq_false (by omega)
  have s14_1 : (9223372036854775807 < 5 + S_src.size + 5 + S_ep.size + 1 + S_hop.size + 7 + S_blk.size + 1 + S_vinc.size + 1 + S_vseq.size) = False := eq_false (by omega)
  have s15_0 : (9223372036854775807 < 4 + 1 + S_src.size + 3 + 1 + 1 + S_ep.size + 1 + S_hop.size + 7 + S_blk.size + 1 + S_vinc.size + 1 + S_vseq.size + 1) = False := eq_false (by omega)
  have s15_1 : (9223372036854775807 < 5 + S_src.size + 5 + S_ep.size + 1 + S_hop.size + 7 + S_blk.size + 1 + S_vinc.size + 1 + S_vseq.size + 1) = False := eq_false (by omega)
  have s16_0 : (9223372036854775807 < 4 + 1 + S_src.size + 3 + 1 + 1 + S_ep.size + 1 + S_hop.size + 7 + S_blk.size + 1 + S_vinc.size + 1 + S_vseq.size + 1 + S_part.size) = False := eq_false (by omega)
  have s16_1 : (9223372036854775807 < 5 + S_src.size + 5 + S_ep.size + 1 + S_hop.size + 7 + S_blk.size + 1 + S_vinc.size + 1 + S_vseq.size + 1 + S_part.size) = False := eq_false (by omega)
  have s17_0 : (9223372036854775807 < 4 + 1 + S_src.size + 3 + 1 + 1 + S_ep.size + 1 + S_hop.size + 7 + S_blk.size + 1 + S_vinc.size + 1 + S_vseq.size + 1 + S_part.size + 4) = False := eq_false (by omega)
  have s17_1 : (9223372036854775807 < 5 + S_src.size + 5 + S_ep.size + 1 + S_hop.size + 7 + S_blk.size + 1 + S_vinc.size + 1 + S_vseq.size + 1 + S_part.size + 4) = False := eq_false (by omega)
  have s18_0 : (9223372036854775807 < 4 + 1 + S_src.size + 3 + 1 + 1 + S_ep.size + 1 + S_hop.size + 7 + S_blk.size + 1 + S_vinc.size + 1 + S_vseq.size + 1 + S_part.size + 4 + S_parts.size) = False := eq_false (by omega)
  have s18_1 : (9223372036854775807 < 5 + S_src.size + 5 + S_ep.size + 1 + S_hop.size + 7 + S_blk.size + 1 + S_vinc.size + 1 + S_vseq.size + 1 + S_part.size + 4 + S_parts.size) = False := eq_false (by omega)
  have HK := Aside0.mk hk
  clear hr hk b_src b_hop b_dst b_blk b_vinc b_vseq b_parts b_part
  have HST := Aside0.mk ((St.start w ht).box f)
  have hx := HST.out.on ((Below.refl _ _).alloc (Nat.le_refl _) (.cells #[.string ⟨#[63]⟩, .string ⟨#[116, 111, 107, 101, 110]⟩, .string ⟨#[112, 111, 108, 108]⟩, .string ⟨#[115, 116, 97, 116, 117, 115]⟩, .string ⟨#[100, 97, 116, 97]⟩, .string ⟨#[108, 101, 97, 118, 101]⟩] 9))
  have hn := names_at (w.alloc (.cells (FC f) 29))
  rw [show (w.alloc (.cells (FC f) 29)).heap.size = w.heap.size + 1 by rw [show (w.alloc (.cells (FC f) 29)).heap = w.heap.push (.cells (FC f) 29) from rfl, Array.size_push]] at hn
  have HX := Aside0.mk hx
  have HNM := Aside0.mk hn
  clear ht HST hx hn
  go_enter Tryd.func13, Tryd.ntmps13
  go_upto_region 2 with (fail)
  generalize (w.alloc (.cells (FC f) 29)).alloc (.cells #[.string ⟨#[63]⟩, .string ⟨#[116, 111, 107, 101, 110]⟩, .string ⟨#[112, 111, 108, 108]⟩, .string ⟨#[115, 116, 97, 116, 117, 115]⟩, .string ⟨#[100, 97, 116, 97]⟩, .string ⟨#[108, 101, 97, 118, 101]⟩] 9) = W1 at *
  generalize w.heap.size + 1 = N at *
  generalize w.heap.size = E at *
  obtain ⟨c0, c9, c10, c11, c12⟩ := (HX.out.fr (E, f) (by simp)).four
  obtain ⟨e1, e2, e3, e4, e5, e6, e7, e8⟩ := (HX.out.fr (E, f) (by simp)).nine
  rw [HK.out] at c0
  have nk : W1.cell? ⟨N, 4, none⟩ = some (.string ⟨#[100, 97, 116, 97]⟩) := blk_cell HNM.out 4
  go_upto_region 8 with ((go_at_call 35; (with_reducible refine (HC_dst.out _).mono ?_); rintro e wq ⟨rfl, hb⟩; have n0_ := Aside0.mk (HX.out.on (by with_reducible exact hb)); clear HX hb; have HX := n0_; clear n0_; clear c0 c9 c10 c11 c12 e1 e2 e3 e4 e5 e6 e7 e8; clear nk; obtain ⟨c0, c9, c10, c11, c12⟩ := (HX.out.fr (E, f) (by simp)).four; obtain ⟨e1, e2, e3, e4, e5, e6, e7, e8⟩ := (HX.out.fr (E, f) (by simp)).nine; rw [HK.out] at c0))
  clear c0 c9 c10 c11 c12 e1 e2 e3 e4 e5 e6 e7 e8
  have n0_ := Aside0.mk HX.out.drew
  clear HX
  have HX := n0_
  clear n0_
  go_region_held_law (fun w' => w'.cell? ⟨E, 1, none⟩ = some (.int .u8 f.src) ∧ w'.cell? ⟨E, 2, none⟩ = some (.int .u8 f.dst) ∧ w'.cell? ⟨E, 3, none⟩ = some (.int .u16 f.sinc) ∧ w'.cell? ⟨E, 4, none⟩ = some (.int .u16 f.dinc) ∧ w'.cell? ⟨E, 5, none⟩ = some (.int .u16 f.ec) ∧ w'.cell? ⟨E, 6, none⟩ = some (.int .u8 f.ea) ∧ w'.cell? ⟨E, 7, none⟩ = some (.int .u16 f.ei) ∧ w'.cell? ⟨E, 8, none⟩ = some (.int .u16 f.hop)) (exact (HX.out.fr (E, f) (by simp)).nine) (first | (go_at_call 35; (with_reducible refine (HC_src.out _).mono ?_); rintro e wq ⟨rfl, hb⟩; have n0_ := Aside0.mk (HX.out.on (by with_reducible exact hb)); clear HX hb; have HX := n0_; clear n0_) | (go_at_call 36; (with_reducible refine (HC_ep.out _).mono ?_); rintro e wq ⟨rfl, hb⟩; have n0_ := Aside0.mk (HX.out.on (by with_reducible exact hb)); clear HX hb; have HX := n0_; clear n0_) | (go_at_call 35; (with_reducible refine (HC_hop.out _).mono ?_); rintro e wq ⟨rfl, hb⟩; have n0_ := Aside0.mk (HX.out.on (by with_reducible exact hb)); clear HX hb; have HX := n0_; clear n0_))
  obtain ⟨c0, c9, c10, c11, c12⟩ := (HX.out.fr (E, f) (by simp)).four
  obtain ⟨e1, e2, e3, e4, e5, e6, e7, e8⟩ := (HX.out.fr (E, f) (by simp)).nine
  rw [HK.out] at c0
  go_upto_region 15 with (fail)
  clear c0 c9 c10 c11 c12 e1 e2 e3 e4 e5 e6 e7 e8
  have n0_ := Aside0.mk HX.out.drew
  clear HX
  have HX := n0_
  clear n0_
  go_region_held_law (fun w' => w'.cell? ⟨E, 13, none⟩ = some (.int .u8 f.blk) ∧ w'.cell? ⟨E, 14, none⟩ = some (.int .u16 f.vinc) ∧ w'.cell? ⟨E, 15, none⟩ = some (.int .u32 f.vseq) ∧ w'.cell? ⟨E, 16, none⟩ = some (.int .u8 f.part) ∧ w'.cell? ⟨E, 17, none⟩ = some (.int .u8 f.parts) ∧ w'.cell? ⟨E, 18, none⟩ = some (.string f.bytes)) (exact (HX.out.fr (E, f) (by simp)).six) (first | (go_at_call 35; (with_reducible refine (HC_blk.out _).mono ?_); rintro e wq ⟨rfl, hb⟩; have n0_ := Aside0.mk (HX.out.on (by with_reducible exact hb)); clear HX hb; have HX := n0_; clear n0_) | (go_at_call 35; (with_reducible refine (HC_vinc.out _).mono ?_); rintro e wq ⟨rfl, hb⟩; have n0_ := Aside0.mk (HX.out.on (by with_reducible exact hb)); clear HX hb; have HX := n0_; clear n0_) | (go_at_call 35; (with_reducible refine (HC_vseq.out _).mono ?_); rintro e wq ⟨rfl, hb⟩; have n0_ := Aside0.mk (HX.out.on (by with_reducible exact hb)); clear HX hb; have HX := n0_; clear n0_) | (go_at_call 35; (with_reducible refine (HC_part.out _).mono ?_); rintro e wq ⟨rfl, hb⟩; have n0_ := Aside0.mk (HX.out.on (by with_reducible exact hb)); clear HX hb; have HX := n0_; clear n0_) | (go_at_call 35; (with_reducible refine (HC_parts.out _).mono ?_); rintro e wq ⟨rfl, hb⟩; have n0_ := Aside0.mk (HX.out.on (by with_reducible exact hb)); clear HX hb; have HX := n0_; clear n0_))
  go_wp2_with (fail)
  go_ret
  exact ⟨rfl, HX.out.below⟩
end Go.Proofs.YtkcaifpmceoflaaDoor.Frm

/- The document's Bytes of a frame: plain forms of its parts. -/
import Derived.Test.YtkcaifpmceoflaaDoorCells
import Derived.Deep.RegionHeldLaw
namespace Go.Proofs.YtkcaifpmceoflaaDoor.Frm
open Go.RowKit Go.Proofs.YtkcaifpmceoflaaDoorW.PrintWords Go.Proofs.YtkcaifpmceoflaaDoorW.PrintLast Go.Proofs.YtkcaifpmceoflaaDoorW.PrintMore
set_option linter.unusedVariables false
set_option linter.unusedSimpArgs false
theorem str_app (a b : List Int) : strOfNums a ++ strOfNums b = strOfNums (a ++ b) := by
  apply ByteArray.ext
  apply Array.toList_inj.1
  rw [ByteArray.data_append, Array.toList_append, strOfNums_data, strOfNums_data, strOfNums_data, List.map_append]
theorem rb_step (k : Nat) (m c i : Int) (xs : List Int) (hm : 0 ≤ m ∧ m < 4294967296) (hi : 0 ≤ i ∧ i < c) (hc : c ≤ 4) (hx : xs.length ≤ 4) :
    Own.fuglemanref02_Bytes.l0 (k + 1) m c (strOfNums xs) i = Own.fuglemanref02_Bytes.l0 k (m / 256) c (strOfNums ((m % 256) :: xs)) (i + 1) := by
  conv => lhs; unfold Own.fuglemanref02_Bytes.l0
  have e0 : Int.tmod m 256 % 256 = m % 256 := by rw [Int.tmod_eq_emod_of_nonneg hm.1]; omega
  have e1 : Int.tdiv m 256 % 4294967296 = m / 256 := by rw [Int.tdiv_eq_ediv_of_nonneg hm.1]; omega
  have e2 : strOfNums [m % 256] ++ strOfNums xs = strOfNums ((m % 256) :: xs) := str_app _ _
  have e3 : wrap64 (i + 1) = i + 1 := by unfold wrap64; omega
  rw [if_pos hi.2, Option.bind_some, e0, e1, if_pos (by rw [strOfNums_size, strOfNums_size]; simp only [List.length_cons, List.length_nil]; omega), e2, e3]
theorem rb_end (k : Nat) (m c : Int) (xs : List Int) : Own.fuglemanref02_Bytes.l0 (k + 1) m c (strOfNums xs) c = some (strOfNums xs) := by
  unfold Own.fuglemanref02_Bytes.l0
  rw [if_neg (by omega)]
theorem rb1 (n : Int) (h : 0 ≤ n ∧ n < 256) : Own.fuglemanref02_Bytes.f 5 n 1 = some (strOfNums [n]) := by
  show Own.fuglemanref02_Bytes.l0 5 n 1 (strOfNums []) 0 = _
  rw [rb_step 4 n 1 0 [] (by omega) (by omega) (by omega) (by simp), show (0 : Int) + 1 = 1 from rfl, rb_end, show n % 256 = n by omega]
theorem rb2 (n : Int) (h : 0 ≤ n ∧ n < 65536) : Own.fuglemanref02_Bytes.f 5 n 2 = some (strOfNums (two n)) := by
  show Own.fuglemanref02_Bytes.l0 5 n 2 (strOfNums []) 0 = _
  rw [rb_step 4 n 2 0 [] (by omega) (by omega) (by omega) (by simp), rb_step 3 (n / 256) 2 (0 + 1) _ (by omega) (by omega) (by omega) (by simp), show (0 : Int) + 1 + 1 = 2 from rfl, rb_end]
  rfl
theorem rb4 (n : Int) (h : 0 ≤ n ∧ n < 4294967296) : Own.fuglemanref02_Bytes.f 5 n 4 = some (strOfNums [IntKind.u16.wrap (n / 65536) / 256 % 256, IntKind.u16.wrap (n / 65536) % 256, IntKind.u16.wrap n / 256 % 256, IntKind.u16.wrap n % 256]) := by
  show Own.fuglemanref02_Bytes.l0 5 n 4 (strOfNums []) 0 = _
  rw [rb_step 4 n 4 0 [] (by omega) (by omega) (by omega) (by simp), rb_step 3 (n / 256) 4 (0 + 1) _ (by omega) (by omega) (by omega) (by simp), rb_step 2 (n / 256 / 256) 4 (0 + 1 + 1) _ (by omega) (by omega) (by omega) (by simp), rb_step 1 (n / 256 / 256 / 256) 4 (0 + 1 + 1 + 1) _ (by omega) (by omega) (by omega) (by simp), show (0 : Int) + 1 + 1 + 1 + 1 = 4 from rfl, rb_end, u16_in, u16_in]
  congr 2
  have h1 : n / 256 / 256 / 256 % 256 = n / 65536 % 65536 / 256 % 256 := by omega
  have h2 : n / 256 / 256 % 256 = n / 65536 % 65536 % 256 := by omega
  have h3 : n / 256 % 256 = n % 65536 / 256 % 256 := by omega
  have h4 : n % 256 = n % 65536 % 256 := by omega
  rw [h1, h2, h3, ← h4]
theorem rbe (a b c : Int) (ha : 0 ≤ a ∧ a < 65536) (hb : 0 ≤ b ∧ b < 256) (hc : 0 ≤ c ∧ c < 65536) : Own.fuglemanref04_epoch.f 5 a b c = some (strOfNums (two a ++ [b] ++ two c)) := by
  unfold Own.fuglemanref04_epoch.f
  rw [show a % 4294967296 = a by omega, show b % 4294967296 = b by omega, show c % 4294967296 = c by omega, rb2 a ha, rb1 b hb, rb2 c hc]
  simp only [Option.bind_some, str_app]
  rw [if_pos (by rw [strOfNums_size, strOfNums_size]; simp [two]), if_pos (by rw [strOfNums_size, strOfNums_size]; simp [two])]
theorem b1_f (w : World) (n : Int) (h : 0 ≤ n ∧ n < 256) : Calls Tryd.prog 40 #[.int .u32 n, .int .i64 1] w fun e w' => e = .returned (.string (strOfNums [n])) ∧ Below w.heap.size w w' := Own.fuglemanref02_Bytes.calls 5 n 1 _ w (rb1 n h)
theorem b2_f (w : World) (n : Int) (h : 0 ≤ n ∧ n < 65536) : Calls Tryd.prog 40 #[.int .u32 n, .int .i64 2] w fun e w' => e = .returned (.string (strOfNums (two n))) ∧ Below w.heap.size w w' := Own.fuglemanref02_Bytes.calls 5 n 2 _ w (rb2 n h)
def four_ (n : Int) : List Int := [IntKind.u16.wrap (n / 65536) / 256 % 256, IntKind.u16.wrap (n / 65536) % 256, IntKind.u16.wrap n / 256 % 256, IntKind.u16.wrap n % 256]
theorem b4_f (w : World) (n : Int) (h : 0 ≤ n ∧ n < 4294967296) : Calls Tryd.prog 40 #[.int .u32 n, .int .i64 4] w fun e w' => e = .returned (.string (strOfNums (four_ n))) ∧ Below w.heap.size w w' := Own.fuglemanref02_Bytes.calls 5 n 4 _ w (rb4 n h)
theorem be_f (w : World) (a b c : Int) (ha : 0 ≤ a ∧ a < 65536) (hb : 0 ≤ b ∧ b < 256) (hc : 0 ≤ c ∧ c < 65536) : Calls Tryd.prog 39 #[.agg #[.int .u16 a, .int .u8 b, .int .u16 c]] w fun e w' => e = .returned (.string (strOfNums (two a ++ [b] ++ two c))) ∧ Below w.heap.size w w' := Own.fuglemanref04_epoch.calls 5 a b c _ w (rbe a b c ha hb hc)
/-! ### the walk -/
set_option maxHeartbeats 8000000 in
set_option maxRecDepth 100000 in
theorem rbytes_P (w : World) (f : Fr) (hr : Rng f) (h : right f = true) (ht : Own.Tabs w) (hk : f.kind = 1 ∨ f.kind = 2 ∨ f.kind = 5) :
    Calls Tryd.prog 16 #[.agg (FC f)] w fun e w' => e = .returned (.string (encs f)) ∧ Below w.heap.size w w' := by
  have hzz : zsz f = 17 := by unfold zsz; rw [if_neg (by omega), if_neg (by omega)]
  have htl : strOfNums (tail_ f) = (⟨#[]⟩ : ByteArray) := by
    unfold tail_
    rw [if_neg (by omega), if_neg (by omega)]
    rfl
  have hbody : strOfNums [f.kind] ++ strOfNums [zsz f] ++ (strOfNums [f.src] ++ strOfNums (two f.sinc) ++ strOfNums [f.dst] ++ strOfNums (two f.dinc) ++ strOfNums (two f.ec ++ [f.ea] ++ two f.ei) ++ strOfNums (two f.hop) ++ strOfNums (tail_ f)) = insd f := by
    apply bytes_inj
    rw [insd_bytes f hr h, str_app, str_app, str_app, str_app, str_app, str_app, str_app, str_app, bytes_str _ (by intro x hx; have h_ := bytes_rng (insd f) x; rw [insd_bytes f hr h] at h_; exact h_ hx)]
    rfl
  rw [hzz, htl] at hbody
  have hle := insd_le f h
  have HSE := Aside0.mk fun W : World => rsealed_f W (insd f) (by omega)
  rw [show insd f ++ two8 (crc (insd f)) = encs f from rfl, ← hbody] at HSE
  clear hbody htl
  obtain ⟨hkk, _, _, hbare⟩ := right_parts f h
  have HC_z := Aside0.mk fun W : World => b1_f W 17 (by omega)
  have b_src := hr.src
  have HC_src := Aside0.mk fun W : World => b1_f W f.src b_src
  have u_src : IntKind.u32.wrap f.src = f.src := by rw [IntKind.wrap_u32]; omega
  have v_src : f.src % 4294967296 = f.src := by omega
  have b_sinc := hr.sinc
  have HC_sinc := Aside0.mk fun W : World => b2_f W f.sinc b_sinc
  have u_sinc : IntKind.u32.wrap f.sinc = f.sinc := by rw [IntKind.wrap_u32]; omega
  have v_sinc : f.sinc % 4294967296 = f.sinc := by omega
  have b_dst := hr.dst
  have HC_dst := Aside0.mk fun W : World => b1_f W f.dst b_dst
  have u_dst : IntKind.u32.wrap f.dst = f.dst := by rw [IntKind.wrap_u32]; omega
  have v_dst : f.dst % 4294967296 = f.dst := by omega
  have b_dinc := hr.dinc
  have HC_dinc := Aside0.mk fun W : World => b2_f W f.dinc b_dinc
  have u_dinc : IntKind.u32.wrap f.dinc = f.dinc := by rw [IntKind.wrap_u32]; omega
  have v_dinc : f.dinc % 4294967296 = f.dinc := by omega
  have b_hop := hr.hop
  have HC_hop := Aside0.mk fun W : World => b2_f W f.hop b_hop
  have u_hop : IntKind.u32.wrap f.hop = f.hop := by rw [IntKind.wrap_u32]; omega
  have v_hop : f.hop % 4294967296 = f.hop := by omega
  have HC_ep := Aside0.mk fun W : World => be_f W f.ec f.ea f.ei hr.ec hr.ea hr.ei
  have HC_kind := Aside0.mk fun W : World => b1_f W f.kind (by omega)
  have u_kind : IntKind.u32.wrap f.kind = f.kind := by rw [IntKind.wrap_u32]; omega
  have v_kind : f.kind % 4294967296 = f.kind := by omega
  have k3 : (f.kind == 3) = false := beq_eq_false_iff_ne.2 (by omega)
  have k4 : (f.kind == 4) = false := beq_eq_false_iff_ne.2 (by omega)
  have HST := Aside0.mk ((St.start w ht).box f)
  clear hkk h ht hle hzz hk hbare hr
  have z_src : (strOfNums ([f.src])).size = 1 := by rw [strOfNums_size]; rfl
  generalize strOfNums ([f.src]) = S_src at *
  have z_sinc : (strOfNums (two f.sinc)).size = 2 := by rw [strOfNums_size]; rfl
  generalize strOfNums (two f.sinc) = S_sinc at *
  have z_dst : (strOfNums ([f.dst])).size = 1 := by rw [strOfNums_size]; rfl
  generalize strOfNums ([f.dst]) = S_dst at *
  have z_dinc : (strOfNums (two f.dinc)).size = 2 := by rw [strOfNums_size]; rfl
  generalize strOfNums (two f.dinc) = S_dinc at *
  have z_hop : (strOfNums (two f.hop)).size = 2 := by rw [strOfNums_size]; rfl
  generalize strOfNums (two f.hop) = S_hop at *
  have z_ep : (strOfNums (two f.ec ++ [f.ea] ++ two f.ei)).size = 5 := by rw [strOfNums_size]; rfl
  generalize strOfNums (two f.ec ++ [f.ea] ++ two f.ei) = S_ep at *
  have z_kind : (strOfNums ([f.kind])).size = 1 := by rw [strOfNums_size]; rfl
  generalize strOfNums ([f.kind]) = S_kind at *
  have z_z : (strOfNums ([17])).size = 1 := by rw [strOfNums_size]; rfl
  generalize strOfNums ([17]) = S_z at *
  go_enter Tryd.func16, Tryd.ntmps16
  go_upto_region 1 with (fail)
  generalize w.alloc (.cells (FC f) 29) = W0 at *
  generalize w.heap.size = E at *
  have HX := HST
  clear HST
  obtain ⟨c0, c9, c10, c11, c12⟩ := (HX.out.fr (E, f) (by simp)).four
  go_upto_region 9 with (fail)
  clear c0 c9 c10 c11 c12
  have n0_ := Aside0.mk HX.out.drew
  clear HX
  have HX := n0_
  clear n0_
  go_region_held_law (fun w' => w'.cell? ⟨E, 1, none⟩ = some (.int .u8 f.src) ∧ w'.cell? ⟨E, 2, none⟩ = some (.int .u8 f.dst) ∧ w'.cell? ⟨E, 3, none⟩ = some (.int .u16 f.sinc) ∧ w'.cell? ⟨E, 4, none⟩ = some (.int .u16 f.dinc) ∧ w'.cell? ⟨E, 5, none⟩ = some (.int .u16 f.ec) ∧ w'.cell? ⟨E, 6, none⟩ = some (.int .u8 f.ea) ∧ w'.cell? ⟨E, 7, none⟩ = some (.int .u16 f.ei) ∧ w'.cell? ⟨E, 8, none⟩ = some (.int .u16 f.hop)) (exact (HX.out.fr (E, f) (by simp)).nine) (first | (go_at_call 40; (with_reducible refine (HC_src.out _).mono ?_); rintro e wq ⟨rfl, hb⟩; have n0_ := Aside0.mk (HX.out.on (by with_reducible exact hb)); clear HX hb; have HX := n0_; clear n0_) | (go_at_call 40; (with_reducible refine (HC_sinc.out _).mono ?_); rintro e wq ⟨rfl, hb⟩; have n0_ := Aside0.mk (HX.out.on (by with_reducible exact hb)); clear HX hb; have HX := n0_; clear n0_) | (go_at_call 40; (with_reducible refine (HC_dst.out _).mono ?_); rintro e wq ⟨rfl, hb⟩; have n0_ := Aside0.mk (HX.out.on (by with_reducible exact hb)); clear HX hb; have HX := n0_; clear n0_) | (go_at_call 40; (with_reducible refine (HC_dinc.out _).mono ?_); rintro e wq ⟨rfl, hb⟩; have n0_ := Aside0.mk (HX.out.on (by with_reducible exact hb)); clear HX hb; have HX := n0_; clear n0_) | (go_at_call 40; (with_reducible refine (HC_hop.out _).mono ?_); rintro e wq ⟨rfl, hb⟩; have n0_ := Aside0.mk (HX.out.on (by with_reducible exact hb)); clear HX hb; have HX := n0_; clear n0_) | (go_at_call 39; (with_reducible refine (HC_ep.out _).mono ?_); rintro e wq ⟨rfl, hb⟩; have n0_ := Aside0.mk (HX.out.on (by with_reducible exact hb)); clear HX hb; have HX := n0_; clear n0_))
  obtain ⟨c0, c9, c10, c11, c12⟩ := (HX.out.fr (E, f) (by simp)).four
  clear c9 c10 c11 c12
  go_wp2_with (first | (go_at_call 40; (with_reducible refine (HC_kind.out _).mono ?_); rintro e wq ⟨rfl, hb⟩; have n0_ := Aside0.mk (HX.out.on (by with_reducible exact hb)); clear HX hb; have HX := n0_; clear n0_) | (go_at_call 40; (with_reducible refine (HC_z.out _).mono ?_); rintro e wq ⟨rfl, hb⟩; have n0_ := Aside0.mk (HX.out.on (by with_reducible exact hb)); clear HX hb; have HX := n0_; clear n0_) | (go_at_call 19; (with_reducible refine (HSE.out _).mono ?_); rintro e wq ⟨rfl, hb⟩; have n0_ := Aside0.mk (HX.out.on (by with_reducible exact hb)); clear HX hb; have HX := n0_; clear n0_))
  go_ret
  exact ⟨rfl, HX.out.below⟩
set_option maxHeartbeats 8000000 in
set_option maxRecDepth 100000 in
theorem rbytes_in (w : World) (f : Fr) (hr : Rng f) (h : right f = true) (ht : Own.Tabs w) (hk : f.kind = 3 ∧ f.wants = true) :
    Calls Tryd.prog 16 #[.agg (FC f)] w fun e w' => e = .returned (.string (encs f)) ∧ Below w.heap.size w w' := by
  have hzz : zsz f = 23 := by unfold zsz; rw [if_pos hk.1]
  have htl : strOfNums (tail_ f) = (strOfNums (two f.hc ++ [f.ha] ++ two f.hi) ++ strOfNums [1]) := by
    unfold tail_
    rw [if_pos hk.1, hk.2, str_app]
    rfl
  have hbody : strOfNums [f.kind] ++ strOfNums [zsz f] ++ (strOfNums [f.src] ++ strOfNums (two f.sinc) ++ strOfNums [f.dst] ++ strOfNums (two f.dinc) ++ strOfNums (two f.ec ++ [f.ea] ++ two f.ei) ++ strOfNums (two f.hop) ++ strOfNums (tail_ f)) = insd f := by
    apply bytes_inj
    rw [insd_bytes f hr h, str_app, str_app, str_app, str_app, str_app, str_app, str_app, str_app, bytes_str _ (by intro x hx; have h_ := bytes_rng (insd f) x; rw [insd_bytes f hr h] at h_; exact h_ hx)]
    rfl
  rw [hzz, htl] at hbody
  have hle := insd_le f h
  have HSE := Aside0.mk fun W : World => rsealed_f W (insd f) (by omega)
  rw [show insd f ++ two8 (crc (insd f)) = encs f from rfl, ← hbody] at HSE
  clear hbody htl
  obtain ⟨hkk, _, _, hbare⟩ := right_parts f h
  have HC_z := Aside0.mk fun W : World => b1_f W 23 (by omega)
  have b_src := hr.src
  have HC_src := Aside0.mk fun W : World => b1_f W f.src b_src
  have u_src : IntKind.u32.wrap f.src = f.src := by rw [IntKind.wrap_u32]; omega
  have v_src : f.src % 4294967296 = f.src := by omega
  have b_sinc := hr.sinc
  have HC_sinc := Aside0.mk fun W : World => b2_f W f.sinc b_sinc
  have u_sinc : IntKind.u32.wrap f.sinc = f.sinc := by rw [IntKind.wrap_u32]; omega
  have v_sinc : f.sinc % 4294967296 = f.sinc := by omega
  have b_dst := hr.dst
  have HC_dst := Aside0.mk fun W : World => b1_f W f.dst b_dst
  have u_dst : IntKind.u32.wrap f.dst = f.dst := by rw [IntKind.wrap_u32]; omega
  have v_dst : f.dst % 4294967296 = f.dst := by omega
  have b_dinc := hr.dinc
  have HC_dinc := Aside0.mk fun W : World => b2_f W f.dinc b_dinc
  have u_dinc : IntKind.u32.wrap f.dinc = f.dinc := by rw [IntKind.wrap_u32]; omega
  have v_dinc : f.dinc % 4294967296 = f.dinc := by omega
  have b_hop := hr.hop
  have HC_hop := Aside0.mk fun W : World => b2_f W f.hop b_hop
  have u_hop : IntKind.u32.wrap f.hop = f.hop := by rw [IntKind.wrap_u32]; omega
  have v_hop : f.hop % 4294967296 = f.hop := by omega
  have HC_ep := Aside0.mk fun W : World => be_f W f.ec f.ea f.ei hr.ec hr.ea hr.ei
  have HC_kind := Aside0.mk fun W : World => b1_f W f.kind (by omega)
  have u_kind : IntKind.u32.wrap f.kind = f.kind := by rw [IntKind.wrap_u32]; omega
  have v_kind : f.kind % 4294967296 = f.kind := by omega
  have HC_eh := Aside0.mk fun W : World => be_f W f.hc f.ha f.hi hr.hc hr.ha hr.hi
  have HC_w := Aside0.mk fun W : World => b1_f W 1 (by omega)
  have kw := hk.2
  have k3 : (f.kind == 3) = true := beq_iff_eq.2 hk.1
  have k4 : (f.kind == 4) = false := beq_eq_false_iff_ne.2 (by omega)
  have HST := Aside0.mk ((St.start w ht).box f)
  clear hkk h ht hle hzz hk hbare hr
  have z_src : (strOfNums ([f.src])).size = 1 := by rw [strOfNums_size]; rfl
  generalize strOfNums ([f.src]) = S_src at *
  have z_sinc : (strOfNums (two f.sinc)).size = 2 := by rw [strOfNums_size]; rfl
  generalize strOfNums (two f.sinc) = S_sinc at *
  have z_dst : (strOfNums ([f.dst])).size = 1 := by rw [strOfNums_size]; rfl
  generalize strOfNums ([f.dst]) = S_dst at *
  have z_dinc : (strOfNums (two f.dinc)).size = 2 := by rw [strOfNums_size]; rfl
  generalize strOfNums (two f.dinc) = S_dinc at *
  have z_hop : (strOfNums (two f.hop)).size = 2 := by rw [strOfNums_size]; rfl
  generalize strOfNums (two f.hop) = S_hop at *
  have z_ep : (strOfNums (two f.ec ++ [f.ea] ++ two f.ei)).size = 5 := by rw [strOfNums_size]; rfl
  generalize strOfNums (two f.ec ++ [f.ea] ++ two f.ei) = S_ep at *
  have z_kind : (strOfNums ([f.kind])).size = 1 := by rw [strOfNums_size]; rfl
  generalize strOfNums ([f.kind]) = S_kind at *
  have z_z : (strOfNums ([23])).size = 1 := by rw [strOfNums_size]; rfl
  generalize strOfNums ([23]) = S_z at *
  have z_eh : (strOfNums (two f.hc ++ [f.ha] ++ two f.hi)).size = 5 := by rw [strOfNums_size]; rfl
  generalize strOfNums (two f.hc ++ [f.ha] ++ two f.hi) = S_eh at *
  have z_w : (strOfNums ([1])).size = 1 := by rw [strOfNums_size]; rfl
  generalize strOfNums ([1]) = S_w at *
  go_enter Tryd.func16, Tryd.ntmps16
  go_upto_region 1 with (fail)
  generalize w.alloc (.cells (FC f) 29) = W0 at *
  generalize w.heap.size = E at *
  have HX := HST
  clear HST
  obtain ⟨c0, c9, c10, c11, c12⟩ := (HX.out.fr (E, f) (by simp)).four
  rw [kw] at c12
  clear kw
  go_upto_region 9 with (first | (go_at_call 39; (with_reducible refine (HC_eh.out _).mono ?_); rintro e wq ⟨rfl, hb⟩; have n0_ := Aside0.mk (HX.out.on (by with_reducible exact hb)); clear HX hb; have HX := n0_; clear n0_; clear c0 c9 c10 c11 c12; obtain ⟨c0, c9, c10, c11, c12⟩ := (HX.out.fr (E, f) (by simp)).four) | (go_at_call 40; (with_reducible refine (HC_w.out _).mono ?_); rintro e wq ⟨rfl, hb⟩; have n0_ := Aside0.mk (HX.out.on (by with_reducible exact hb)); clear HX hb; have HX := n0_; clear n0_; clear c0 c9 c10 c11 c12; obtain ⟨c0, c9, c10, c11, c12⟩ := (HX.out.fr (E, f) (by simp)).four))
  clear c0 c9 c10 c11 c12
  have n0_ := Aside0.mk HX.out.drew
  clear HX
  have HX := n0_
  clear n0_
  go_region_held_law (fun w' => w'.cell? ⟨E, 1, none⟩ = some (.int .u8 f.src) ∧ w'.cell? ⟨E, 2, none⟩ = some (.int .u8 f.dst) ∧ w'.cell? ⟨E, 3, none⟩ = some (.int .u16 f.sinc) ∧ w'.cell? ⟨E, 4, none⟩ = some (.int .u16 f.dinc) ∧ w'.cell? ⟨E, 5, none⟩ = some (.int .u16 f.ec) ∧ w'.cell? ⟨E, 6, none⟩ = some (.int .u8 f.ea) ∧ w'.cell? ⟨E, 7, none⟩ = some (.int .u16 f.ei) ∧ w'.cell? ⟨E, 8, none⟩ = some (.int .u16 f.hop)) (exact (HX.out.fr (E, f) (by simp)).nine) (first | (go_at_call 40; (with_reducible refine (HC_src.out _).mono ?_); rintro e wq ⟨rfl, hb⟩; have n0_ := Aside0.mk (HX.out.on (by with_reducible exact hb)); clear HX hb; have HX := n0_; clear n0_) | (go_at_call 40; (with_reducible refine (HC_sinc.out _).mono ?_); rintro e wq ⟨rfl, hb⟩; have n0_ := Aside0.mk (HX.out.on (by with_reducible exact hb)); clear HX hb; have HX := n0_; clear n0_) | (go_at_call 40; (with_reducible refine (HC_dst.out _).mono ?_); rintro e wq ⟨rfl, hb⟩; have n0_ := Aside0.mk (HX.out.on (by with_reducible exact hb)); clear HX hb; have HX := n0_; clear n0_) | (go_at_call 40; (with_reducible refine (HC_dinc.out _).mono ?_); rintro e wq ⟨rfl, hb⟩; have n0_ := Aside0.mk (HX.out.on (by with_reducible exact hb)); clear HX hb; have HX := n0_; clear n0_) | (go_at_call 40; (with_reducible refine (HC_hop.out _).mono ?_); rintro e wq ⟨rfl, hb⟩; have n0_ := Aside0.mk (HX.out.on (by with_reducible exact hb)); clear HX hb; have HX := n0_; clear n0_) | (go_at_call 39; (with_reducible refine (HC_ep.out _).mono ?_); rintro e wq ⟨rfl, hb⟩; have n0_ := Aside0.mk (HX.out.on (by with_reducible exact hb)); clear HX hb; have HX := n0_; clear n0_))
  obtain ⟨c0, c9, c10, c11, c12⟩ := (HX.out.fr (E, f) (by simp)).four
  clear c9 c10 c11 c12
  go_wp2_with (first | (go_at_call 40; (with_reducible refine (HC_kind.out _).mono ?_); rintro e wq ⟨rfl, hb⟩; have n0_ := Aside0.mk (HX.out.on (by with_reducible exact hb)); clear HX hb; have HX := n0_; clear n0_) | (go_at_call 40; (with_reducible refine (HC_z.out _).mono ?_); rintro e wq ⟨rfl, hb⟩; have n0_ := Aside0.mk (HX.out.on (by with_reducible exact hb)); clear HX hb; have HX := n0_; clear n0_) | (go_at_call 19; (with_reducible refine (HSE.out _).mono ?_); rintro e wq ⟨rfl, hb⟩; have n0_ := Aside0.mk (HX.out.on (by with_reducible exact hb)); clear HX hb; have HX := n0_; clear n0_))
  go_ret
  exact ⟨rfl, HX.out.below⟩
set_option maxHeartbeats 8000000 in
set_option maxRecDepth 100000 in
theorem rbytes_out (w : World) (f : Fr) (hr : Rng f) (h : right f = true) (ht : Own.Tabs w) (hk : f.kind = 3 ∧ f.wants = false) :
    Calls Tryd.prog 16 #[.agg (FC f)] w fun e w' => e = .returned (.string (encs f)) ∧ Below w.heap.size w w' := by
  have hzz : zsz f = 23 := by unfold zsz; rw [if_pos hk.1]
  have htl : strOfNums (tail_ f) = (strOfNums (two f.hc ++ [f.ha] ++ two f.hi) ++ strOfNums [0]) := by
    unfold tail_
    rw [if_pos hk.1, hk.2, str_app]
    rfl
  have hbody : strOfNums [f.kind] ++ strOfNums [zsz f] ++ (strOfNums [f.src] ++ strOfNums (two f.sinc) ++ strOfNums [f.dst] ++ strOfNums (two f.dinc) ++ strOfNums (two f.ec ++ [f.ea] ++ two f.ei) ++ strOfNums (two f.hop) ++ strOfNums (tail_ f)) = insd f := by
    apply bytes_inj
    rw [insd_bytes f hr h, str_app, str_app, str_app, str_app, str_app, str_app, str_app, str_app, bytes_str _ (by intro x hx; have h_ := bytes_rng (insd f) x; rw [insd_bytes f hr h] at h_; exact h_ hx)]
    rfl
  rw [hzz, htl] at hbody
  have hle := insd_le f h
  have HSE := Aside0.mk fun W : World => rsealed_f W (insd f) (by omega)
  rw [show insd f ++ two8 (crc (insd f)) = encs f from rfl, ← hbody] at HSE
  clear hbody htl
  obtain ⟨hkk, _, _, hbare⟩ := right_parts f h
  have HC_z := Aside0.mk fun W : World => b1_f W 23 (by omega)
  have b_src := hr.src
  have HC_src := Aside0.mk fun W : World => b1_f W f.src b_src
  have u_src : IntKind.u32.wrap f.src = f.src := by rw [IntKind.wrap_u32]; omega
  have v_src : f.src % 4294967296 = f.src := by omega
  have b_sinc := hr.sinc
  have HC_sinc := Aside0.mk fun W : World => b2_f W f.sinc b_sinc
  have u_sinc : IntKind.u32.wrap f.sinc = f.sinc := by rw [IntKind.wrap_u32]; omega
  have v_sinc : f.sinc % 4294967296 = f.sinc := by omega
  have b_dst := hr.dst
  have HC_dst := Aside0.mk fun W : World => b1_f W f.dst b_dst
  have u_dst : IntKind.u32.wrap f.dst = f.dst := by rw [IntKind.wrap_u32]; omega
  have v_dst : f.dst % 4294967296 = f.dst := by omega
  have b_dinc := hr.dinc
  have HC_dinc := Aside0.mk fun W : World => b2_f W f.dinc b_dinc
  have u_dinc : IntKind.u32.wrap f.dinc = f.dinc := by rw [IntKind.wrap_u32]; omega
  have v_dinc : f.dinc % 4294967296 = f.dinc := by omega
  have b_hop := hr.hop
  have HC_hop := Aside0.mk fun W : World => b2_f W f.hop b_hop
  have u_hop : IntKind.u32.wrap f.hop = f.hop := by rw [IntKind.wrap_u32]; omega
  have v_hop : f.hop % 4294967296 = f.hop := by omega
  have HC_ep := Aside0.mk fun W : World => be_f W f.ec f.ea f.ei hr.ec hr.ea hr.ei
  have HC_kind := Aside0.mk fun W : World => b1_f W f.kind (by omega)
  have u_kind : IntKind.u32.wrap f.kind = f.kind := by rw [IntKind.wrap_u32]; omega
  have v_kind : f.kind % 4294967296 = f.kind := by omega
  have HC_eh := Aside0.mk fun W : World => be_f W f.hc f.ha f.hi hr.hc hr.ha hr.hi
  have HC_w := Aside0.mk fun W : World => b1_f W 0 (by omega)
  have kw := hk.2
  have k3 : (f.kind == 3) = true := beq_iff_eq.2 hk.1
  have k4 : (f.kind == 4) = false := beq_eq_false_iff_ne.2 (by omega)
  have HST := Aside0.mk ((St.start w ht).box f)
  clear hkk h ht hle hzz hk hbare hr
  have z_src : (strOfNums ([f.src])).size = 1 := by rw [strOfNums_size]; rfl
  generalize strOfNums ([f.src]) = S_src at *
  have z_sinc : (strOfNums (two f.sinc)).size = 2 := by rw [strOfNums_size]; rfl
  generalize strOfNums (two f.sinc) = S_sinc at *
  have z_dst : (strOfNums ([f.dst])).size = 1 := by rw [strOfNums_size]; rfl
  generalize strOfNums ([f.dst]) = S_dst at *
  have z_dinc : (strOfNums (two f.dinc)).size = 2 := by rw [strOfNums_size]; rfl
  generalize strOfNums (two f.dinc) = S_dinc at *
  have z_hop : (strOfNums (two f.hop)).size = 2 := by rw [strOfNums_size]; rfl
  generalize strOfNums (two f.hop) = S_hop at *
  have z_ep : (strOfNums (two f.ec ++ [f.ea] ++ two f.ei)).size = 5 := by rw [strOfNums_size]; rfl
  generalize strOfNums (two f.ec ++ [f.ea] ++ two f.ei) = S_ep at *
  have z_kind : (strOfNums ([f.kind])).size = 1 := by rw [strOfNums_size]; rfl
  generalize strOfNums ([f.kind]) = S_kind at *
  have z_z : (strOfNums ([23])).size = 1 := by rw [strOfNums_size]; rfl
  generalize strOfNums ([23]) = S_z at *
  have z_eh : (strOfNums (two f.hc ++ [f.ha] ++ two f.hi)).size = 5 := by rw [strOfNums_size]; rfl
  generalize strOfNums (two f.hc ++ [f.ha] ++ two f.hi) = S_eh at *
  have z_w : (strOfNums ([0])).size = 1 := by rw [strOfNums_size]; rfl
  generalize strOfNums ([0]) = S_w at *
  go_enter Tryd.func16, Tryd.ntmps16
  go_upto_region 1 with (fail)
  generalize w.alloc (.cells (FC f) 29) = W0 at *
  generalize w.heap.size = E at *
  have HX := HST
  clear HST
  obtain ⟨c0, c9, c10, c11, c12⟩ := (HX.out.fr (E, f) (by simp)).four
  rw [kw] at c12
  clear kw
  go_upto_region 9 with (first | (go_at_call 39; (with_reducible refine (HC_eh.out _).mono ?_); rintro e wq ⟨rfl, hb⟩; have n0_ := Aside0.mk (HX.out.on (by with_reducible exact hb)); clear HX hb; have HX := n0_; clear n0_; clear c0 c9 c10 c11 c12; obtain ⟨c0, c9, c10, c11, c12⟩ := (HX.out.fr (E, f) (by simp)).four) | (go_at_call 40; (with_reducible refine (HC_w.out _).mono ?_); rintro e wq ⟨rfl, hb⟩; have n0_ := Aside0.mk (HX.out.on (by with_reducible exact hb)); clear HX hb; have HX := n0_; clear n0_; clear c0 c9 c10 c11 c12; obtain ⟨c0, c9, c10, c11, c12⟩ := (HX.out.fr (E, f) (by simp)).four))
  clear c0 c9 c10 c11 c12
  have n0_ := Aside0.mk HX.out.drew
  clear HX
  have HX := n0_
  clear n0_
  go_region_held_law (fun w' => w'.cell? ⟨E, 1, none⟩ = some (.int .u8 f.src) ∧ w'.cell? ⟨E, 2, none⟩ = some (.int .u8 f.dst) ∧ w'.cell? ⟨E, 3, none⟩ = some (.int .u16 f.sinc) ∧ w'.cell? ⟨E, 4, none⟩ = some (.int .u16 f.dinc) ∧ w'.cell? ⟨E, 5, none⟩ = some (.int .u16 f.ec) ∧ w'.cell? ⟨E, 6, none⟩ = some (.int .u8 f.ea) ∧ w'.cell? ⟨E, 7, none⟩ = some (.int .u16 f.ei) ∧ w'.cell? ⟨E, 8, none⟩ = some (.int .u16 f.hop)) (exact (HX.out.fr (E, f) (by simp)).nine) (first | (go_at_call 40; (with_reducible refine (HC_src.out _).mono ?_); rintro e wq ⟨rfl, hb⟩; have n0_ := Aside0.mk (HX.out.on (by with_reducible exact hb)); clear HX hb; have HX := n0_; clear n0_) | (go_at_call 40; (with_reducible refine (HC_sinc.out _).mono ?_); rintro e wq ⟨rfl, hb⟩; have n0_ := Aside0.mk (HX.out.on (by with_reducible exact hb)); clear HX hb; have HX := n0_; clear n0_) | (go_at_call 40; (with_reducible refine (HC_dst.out _).mono ?_); rintro e wq ⟨rfl, hb⟩; have n0_ := Aside0.mk (HX.out.on (by with_reducible exact hb)); clear HX hb; have HX := n0_; clear n0_) | (go_at_call 40; (with_reducible refine (HC_dinc.out _).mono ?_); rintro e wq ⟨rfl, hb⟩; have n0_ := Aside0.mk (HX.out.on (by with_reducible exact hb)); clear HX hb; have HX := n0_; clear n0_) | (go_at_call 40; (with_reducible refine (HC_hop.out _).mono ?_); rintro e wq ⟨rfl, hb⟩; have n0_ := Aside0.mk (HX.out.on (by with_reducible exact hb)); clear HX hb; have HX := n0_; clear n0_) | (go_at_call 39; (with_reducible refine (HC_ep.out _).mono ?_); rintro e wq ⟨rfl, hb⟩; have n0_ := Aside0.mk (HX.out.on (by with_reducible exact hb)); clear HX hb; have HX := n0_; clear n0_))
  obtain ⟨c0, c9, c10, c11, c12⟩ := (HX.out.fr (E, f) (by simp)).four
  clear c9 c10 c11 c12
  go_wp2_with (first | (go_at_call 40; (with_reducible refine (HC_kind.out _).mono ?_); rintro e wq ⟨rfl, hb⟩; have n0_ := Aside0.mk (HX.out.on (by with_reducible exact hb)); clear HX hb; have HX := n0_; clear n0_) | (go_at_call 40; (with_reducible refine (HC_z.out _).mono ?_); rintro e wq ⟨rfl, hb⟩; have n0_ := Aside0.mk (HX.out.on (by with_reducible exact hb)); clear HX hb; have HX := n0_; clear n0_) | (go_at_call 19; (with_reducible refine (HSE.out _).mono ?_); rintro e wq ⟨rfl, hb⟩; have n0_ := Aside0.mk (HX.out.on (by with_reducible exact hb)); clear HX hb; have HX := n0_; clear n0_))
  go_ret
  exact ⟨rfl, HX.out.below⟩
set_option maxHeartbeats 8000000 in
set_option maxRecDepth 100000 in
theorem rbytes_k4 (w : World) (f : Fr) (hr : Rng f) (h : right f = true) (ht : Own.Tabs w) (hk : f.kind = 4) :
    Calls Tryd.prog 16 #[.agg (FC f)] w fun e w' => e = .returned (.string (encs f)) ∧ Below w.heap.size w w' := by
  have hzz : zsz f = 13 + (9 + (f.bytes.size : Int)) + 4 := by unfold zsz; rw [if_neg (by omega), if_pos hk]; omega
  have htl : strOfNums (tail_ f) = (strOfNums [f.blk] ++ strOfNums (two f.vinc) ++ strOfNums (four_ f.vseq) ++ strOfNums [f.part] ++ strOfNums [f.parts] ++ f.bytes) := by
    unfold tail_
    rw [if_neg (by omega), if_pos hk, ← str_app, str_bytes, str_app, str_app, str_app, str_app]
    rfl
  have hbody : strOfNums [f.kind] ++ strOfNums [zsz f] ++ (strOfNums [f.src] ++ strOfNums (two f.sinc) ++ strOfNums [f.dst] ++ strOfNums (two f.dinc) ++ strOfNums (two f.ec ++ [f.ea] ++ two f.ei) ++ strOfNums (two f.hop) ++ strOfNums (tail_ f)) = insd f := by
    apply bytes_inj
    rw [insd_bytes f hr h, str_app, str_app, str_app, str_app, str_app, str_app, str_app, str_app, bytes_str _ (by intro x hx; have h_ := bytes_rng (insd f) x; rw [insd_bytes f hr h] at h_; exact h_ hx)]
    rfl
  rw [hzz, htl] at hbody
  have hle := insd_le f h
  have HSE := Aside0.mk fun W : World => rsealed_f W (insd f) (by omega)
  rw [show insd f ++ two8 (crc (insd f)) = encs f from rfl, ← hbody] at HSE
  clear hbody htl
  obtain ⟨hkk, _, _, hbare⟩ := right_parts f h
  have hbs := bare_4 f hbare hk
  have nb : f.bytes.size ≤ 16 := hbs.2.2.2.2.2
  have HC_z := Aside0.mk fun W : World => b1_f W (13 + (9 + (f.bytes.size : Int)) + 4) (by omega)
  have b_src := hr.src
  have HC_src := Aside0.mk fun W : World => b1_f W f.src b_src
  have u_src : IntKind.u32.wrap f.src = f.src := by rw [IntKind.wrap_u32]; omega
  have v_src : f.src % 4294967296 = f.src := by omega
  have b_sinc := hr.sinc
  have HC_sinc := Aside0.mk fun W : World => b2_f W f.sinc b_sinc
  have u_sinc : IntKind.u32.wrap f.sinc = f.sinc := by rw [IntKind.wrap_u32]; omega
  have v_sinc : f.sinc % 4294967296 = f.sinc := by omega
  have b_dst := hr.dst
  have HC_dst := Aside0.mk fun W : World => b1_f W f.dst b_dst
  have u_dst : IntKind.u32.wrap f.dst = f.dst := by rw [IntKind.wrap_u32]; omega
  have v_dst : f.dst % 4294967296 = f.dst := by omega
  have b_dinc := hr.dinc
  have HC_dinc := Aside0.mk fun W : World => b2_f W f.dinc b_dinc
  have u_dinc : IntKind.u32.wrap f.dinc = f.dinc := by rw [IntKind.wrap_u32]; omega
  have v_dinc : f.dinc % 4294967296 = f.dinc := by omega
  have b_hop := hr.hop
  have HC_hop := Aside0.mk fun W : World => b2_f W f.hop b_hop
  have u_hop : IntKind.u32.wrap f.hop = f.hop := by rw [IntKind.wrap_u32]; omega
  have v_hop : f.hop % 4294967296 = f.hop := by omega
  have b_blk := hr.blk
  have HC_blk := Aside0.mk fun W : World => b1_f W f.blk b_blk
  have u_blk : IntKind.u32.wrap f.blk = f.blk := by rw [IntKind.wrap_u32]; omega
  have v_blk : f.blk % 4294967296 = f.blk := by omega
  have b_vinc := hr.vinc
  have HC_vinc := Aside0.mk fun W : World => b2_f W f.vinc b_vinc
  have u_vinc : IntKind.u32.wrap f.vinc = f.vinc := by rw [IntKind.wrap_u32]; omega
  have v_vinc : f.vinc % 4294967296 = f.vinc := by omega
  have b_vseq := hr.vseq
  have HC_vseq := Aside0.mk fun W : World => b4_f W f.vseq b_vseq
  have u_vseq : IntKind.u32.wrap f.vseq = f.vseq := by rw [IntKind.wrap_u32]; omega
  have v_vseq : f.vseq % 4294967296 = f.vseq := by omega
  have b_part := hr.part
  have HC_part := Aside0.mk fun W : World => b1_f W f.part b_part
  have u_part : IntKind.u32.wrap f.part = f.part := by rw [IntKind.wrap_u32]; omega
  have v_part : f.part % 4294967296 = f.part := by omega
  have b_parts := hr.parts
  have HC_parts := Aside0.mk fun W : World => b1_f W f.parts b_parts
  have u_parts : IntKind.u32.wrap f.parts = f.parts := by rw [IntKind.wrap_u32]; omega
  have v_parts : f.parts % 4294967296 = f.parts := by omega
  have HC_ep := Aside0.mk fun W : World => be_f W f.ec f.ea f.ei hr.ec hr.ea hr.ei
  have HC_kind := Aside0.mk fun W : World => b1_f W f.kind (by omega)
  have u_kind : IntKind.u32.wrap f.kind = f.kind := by rw [IntKind.wrap_u32]; omega
  have v_kind : f.kind % 4294967296 = f.kind := by omega
  have k3 : (f.kind == 3) = false := beq_eq_false_iff_ne.2 (by omega)
  have k4 : (f.kind == 4) = true := beq_iff_eq.2 hk
  have HST := Aside0.mk ((St.start w ht).box f)
  clear hkk h ht hle hzz hk hbare hr
  have z_src : (strOfNums ([f.src])).size = 1 := by rw [strOfNums_size]; rfl
  generalize strOfNums ([f.src]) = S_src at *
  have z_sinc : (strOfNums (two f.sinc)).size = 2 := by rw [strOfNums_size]; rfl
  generalize strOfNums (two f.sinc) = S_sinc at *
  have z_dst : (strOfNums ([f.dst])).size = 1 := by rw [strOfNums_size]; rfl
  generalize strOfNums ([f.dst]) = S_dst at *
  have z_dinc : (strOfNums (two f.dinc)).size = 2 := by rw [strOfNums_size]; rfl
  generalize strOfNums (two f.dinc) = S_dinc at *
  have z_hop : (strOfNums (two f.hop)).size = 2 := by rw [strOfNums_size]; rfl
  generalize strOfNums (two f.hop) = S_hop at *
  have z_blk : (strOfNums ([f.blk])).size = 1 := by rw [strOfNums_size]; rfl
  generalize strOfNums ([f.blk]) = S_blk at *
  have z_vinc : (strOfNums (two f.vinc)).size = 2 := by rw [strOfNums_size]; rfl
  generalize strOfNums (two f.vinc) = S_vinc at *
  have z_vseq : (strOfNums (four_ f.vseq)).size = 4 := by rw [strOfNums_size]; rfl
  generalize strOfNums (four_ f.vseq) = S_vseq at *
  have z_part : (strOfNums ([f.part])).size = 1 := by rw [strOfNums_size]; rfl
  generalize strOfNums ([f.part]) = S_part at *
  have z_parts : (strOfNums ([f.parts])).size = 1 := by rw [strOfNums_size]; rfl
  generalize strOfNums ([f.parts]) = S_parts at *
  have z_ep : (strOfNums (two f.ec ++ [f.ea] ++ two f.ei)).size = 5 := by rw [strOfNums_size]; rfl
  generalize strOfNums (two f.ec ++ [f.ea] ++ two f.ei) = S_ep at *
  have z_kind : (strOfNums ([f.kind])).size = 1 := by rw [strOfNums_size]; rfl
  generalize strOfNums ([f.kind]) = S_kind at *
  have z_z : (strOfNums ([13 + (9 + (f.bytes.size : Int)) + 4])).size = 1 := by rw [strOfNums_size]; rfl
  generalize strOfNums ([13 + (9 + (f.bytes.size : Int)) + 4]) = S_z at *
  clear hbs
  go_enter Tryd.func16, Tryd.ntmps16
  go_upto_region 1 with (fail)
  generalize w.alloc (.cells (FC f) 29) = W0 at *
  generalize w.heap.size = E at *
  have HX := HST
  clear HST
  obtain ⟨c0, c9, c10, c11, c12⟩ := (HX.out.fr (E, f) (by simp)).four
  go_upto_region 8 with (fail)
  clear c0 c9 c10 c11 c12
  have n0_ := Aside0.mk HX.out.drew
  clear HX
  have HX := n0_
  clear n0_
  go_region_held_law (fun w' => w'.cell? ⟨E, 13, none⟩ = some (.int .u8 f.blk) ∧ w'.cell? ⟨E, 14, none⟩ = some (.int .u16 f.vinc) ∧ w'.cell? ⟨E, 15, none⟩ = some (.int .u32 f.vseq) ∧ w'.cell? ⟨E, 16, none⟩ = some (.int .u8 f.part) ∧ w'.cell? ⟨E, 17, none⟩ = some (.int .u8 f.parts) ∧ w'.cell? ⟨E, 18, none⟩ = some (.string f.bytes)) (exact (HX.out.fr (E, f) (by simp)).six) (first | (go_at_call 40; (with_reducible refine (HC_blk.out _).mono ?_); rintro e wq ⟨rfl, hb⟩; have n0_ := Aside0.mk (HX.out.on (by with_reducible exact hb)); clear HX hb; have HX := n0_; clear n0_) | (go_at_call 40; (with_reducible refine (HC_vinc.out _).mono ?_); rintro e wq ⟨rfl, hb⟩; have n0_ := Aside0.mk (HX.out.on (by with_reducible exact hb)); clear HX hb; have HX := n0_; clear n0_) | (go_at_call 40; (with_reducible refine (HC_vseq.out _).mono ?_); rintro e wq ⟨rfl, hb⟩; have n0_ := Aside0.mk (HX.out.on (by with_reducible exact hb)); clear HX hb; have HX := n0_; clear n0_) | (go_at_call 40; (with_reducible refine (HC_part.out _).mono ?_); rintro e wq ⟨rfl, hb⟩; have n0_ := Aside0.mk (HX.out.on (by with_reducible exact hb)); clear HX hb; have HX := n0_; clear n0_) | (go_at_call 40; (with_reducible refine (HC_parts.out _).mono ?_); rintro e wq ⟨rfl, hb⟩; have n0_ := Aside0.mk (HX.out.on (by with_reducible exact hb)); clear HX hb; have HX := n0_; clear n0_))
  go_upto_region 9 with (fail)
  have n0_ := Aside0.mk HX.out.drew
  clear HX
  have HX := n0_
  clear n0_
  go_region_held_law (fun w' => w'.cell? ⟨E, 1, none⟩ = some (.int .u8 f.src) ∧ w'.cell? ⟨E, 2, none⟩ = some (.int .u8 f.dst) ∧ w'.cell? ⟨E, 3, none⟩ = some (.int .u16 f.sinc) ∧ w'.cell? ⟨E, 4, none⟩ = some (.int .u16 f.dinc) ∧ w'.cell? ⟨E, 5, none⟩ = some (.int .u16 f.ec) ∧ w'.cell? ⟨E, 6, none⟩ = some (.int .u8 f.ea) ∧ w'.cell? ⟨E, 7, none⟩ = some (.int .u16 f.ei) ∧ w'.cell? ⟨E, 8, none⟩ = some (.int .u16 f.hop)) (exact (HX.out.fr (E, f) (by simp)).nine) (first | (go_at_call 40; (with_reducible refine (HC_src.out _).mono ?_); rintro e wq ⟨rfl, hb⟩; have n0_ := Aside0.mk (HX.out.on (by with_reducible exact hb)); clear HX hb; have HX := n0_; clear n0_) | (go_at_call 40; (with_reducible refine (HC_sinc.out _).mono ?_); rintro e wq ⟨rfl, hb⟩; have n0_ := Aside0.mk (HX.out.on (by with_reducible exact hb)); clear HX hb; have HX := n0_; clear n0_) | (go_at_call 40; (with_reducible refine (HC_dst.out _).mono ?_); rintro e wq ⟨rfl, hb⟩; have n0_ := Aside0.mk (HX.out.on (by with_reducible exact hb)); clear HX hb; have HX := n0_; clear n0_) | (go_at_call 40; (with_reducible refine (HC_dinc.out _).mono ?_); rintro e wq ⟨rfl, hb⟩; have n0_ := Aside0.mk (HX.out.on (by with_reducible exact hb)); clear HX hb; have HX := n0_; clear n0_) | (go_at_call 40; (with_reducible refine (HC_hop.out _).mono ?_); rintro e wq ⟨rfl, hb⟩; have n0_ := Aside0.mk (HX.out.on (by with_reducible exact hb)); clear HX hb; have HX := n0_; clear n0_) | (go_at_call 39; (with_reducible refine (HC_ep.out _).mono ?_); rintro e wq ⟨rfl, hb⟩; have n0_ := Aside0.mk (HX.out.on (by with_reducible exact hb)); clear HX hb; have HX := n0_; clear n0_))
  obtain ⟨c0, c9, c10, c11, c12⟩ := (HX.out.fr (E, f) (by simp)).four
  clear c9 c10 c11 c12
  go_wp2_with (first | (go_at_call 40; (with_reducible refine (HC_kind.out _).mono ?_); rintro e wq ⟨rfl, hb⟩; have n0_ := Aside0.mk (HX.out.on (by with_reducible exact hb)); clear HX hb; have HX := n0_; clear n0_) | (go_at_call 40; (with_reducible refine (HC_z.out _).mono ?_); rintro e wq ⟨rfl, hb⟩; have n0_ := Aside0.mk (HX.out.on (by with_reducible exact hb)); clear HX hb; have HX := n0_; clear n0_) | (go_at_call 19; (with_reducible refine (HSE.out _).mono ?_); rintro e wq ⟨rfl, hb⟩; have n0_ := Aside0.mk (HX.out.on (by with_reducible exact hb)); clear HX hb; have HX := n0_; clear n0_))
  go_ret
  exact ⟨rfl, HX.out.below⟩
theorem rbytes_f (w : World) (f : Fr) (hr : Rng f) (h : right f = true) (ht : Own.Tabs w) : Calls Tryd.prog 16 #[.agg (FC f)] w fun e w' => e = .returned (.string (encs f)) ∧ Below w.heap.size w w' := by
  have hk := (right_parts f h).1
  by_cases k3 : f.kind = 3
  · cases hw : f.wants with
    | true => exact rbytes_in w f hr h ht ⟨k3, hw⟩
    | false => exact rbytes_out w f hr h ht ⟨k3, hw⟩
  · by_cases k4 : f.kind = 4
    · exact rbytes_k4 w f hr h ht k4
    · exact rbytes_P w f hr h ht (by omega)
end Go.Proofs.YtkcaifpmceoflaaDoor.Frm

/- The walk of frame.Text for a status and for data. Conditions: those that each statement names. The walk of frame.Text for data. Conditions: those that each statement names. -/
import Derived.Test.YtkcaifpmceoflaaDoorWords
namespace Go.Proofs.YtkcaifpmceoflaaDoor.Frm
open Go.RowKit Go.Proofs.YtkcaifpmceoflaaDoorW.PrintWords Go.Proofs.YtkcaifpmceoflaaDoorW.PrintLast Go.Proofs.YtkcaifpmceoflaaDoorW.PrintMore
set_option linter.unusedVariables false
theorem join_len : ∀ (L : List (List UInt8)) (s : List UInt8) (m : Nat), (∀ x ∈ L, x.length ≤ m) → (Lib.join L s).length ≤ L.length * (m + s.length)
  | [], s, m, h => by simp [Lib.join]
  | [x], s, m, h => by
    have := h x (by simp)
    simp [Lib.join]
    omega
  | x :: y :: L, s, m, h => by
    have h1 := h x (by simp)
    have h2 := join_len (y :: L) s m (fun z hz => h z (by simp [hz]))
    simp [Lib.join] at h2 ⊢
    have e : (L.length + 1 + 1) * (m + s.length) = (L.length + 1) * (m + s.length) + (m + s.length) := Nat.succ_mul _ _
    omega
/-- The words of a line, spaces between. -/
def txt (l : List ByteArray) : ByteArray := ⟨(Lib.join (l.map (·.data.toList)) [32]).toArray⟩
theorem join_txt (l : List ByteArray) (h1 : l.length ≤ 20) (h2 : ∀ x ∈ l, x.size ≤ 100) : join.f l (⟨#[32]⟩ : ByteArray) = some (txt l) := by
  unfold join.f txt
  rw [if_pos]
  refine ⟨by omega, ?_⟩
  have h3 := join_len (l.map (·.data.toList)) [32] 100 (fun x hx => by
    obtain ⟨y, hy, rfl⟩ := List.mem_map.1 hx
    have := h2 y hy
    rw [Array.length_toList]
    exact this)
  simp only [List.length_map, List.length_singleton] at h3
  show (Lib.join _ [32]).length ≤ _
  omega
theorem txt_f (A0 : Option Addr) (c0 : Nat) (l : List ByteArray) (w : World) (hr0 : Kd.C Kd.string w A0 l.length l) (hc0 : l.length ≤ c0) (h1 : l.length ≤ 20) (h2 : ∀ x ∈ l, x.size ≤ 100) :
    Calls Tryd.prog 34 #[.slice A0 l.length c0, .string (⟨#[32]⟩ : ByteArray)] w fun e w' => e = .returned (.string (txt l)) ∧ Below w.heap.size w w' :=
  join.calls A0 c0 l _ _ w hr0 hc0 (join_txt l h1 h2)
theorem str_reps {d : ByteArray → List Value → Prop} (hd : ∀ x, d x [.string x]) : ∀ xs : List ByteArray, Reps d 1 xs (xs.map .string)
  | [] => Reps.none _ _
  | x :: xs => Reps.one (hd x) (str_reps hd xs)
theorem lit_R (W : World) (xs : List ByteArray) (base : Nat) (hb : base ≤ W.heap.size) (hm : xs.length ≤ 1000) : Kd.R Kd.string 9 (W.alloc (.cells (xs.map Value.string).toArray 9)) base (fun _ => True) (.slice (some ⟨W.heap.size, 0, none⟩) xs.length xs.length) xs := by
  refine ⟨fun _ _ => trivial, xs.map .string, ?_, str_reps (d := Kd.string.M (W.alloc (.cells (xs.map Value.string).toArray 9)) base _) (fun x => (show Kd.M Kd.string _ _ _ x [.string x] from rfl)) xs⟩
  have h2 := World.ownsRow_lit (base := base) (e := 9) (size := 1) W (xs.map Value.string).toArray xs.length hb (by simp [maxLen]; omega) (by simp)
  have h3 : (W.alloc (Obj.cells (List.map Value.string xs).toArray 9)).ownsRow base 9 1 (Value.slice (some { block := W.heap.size, off := 0 }) xs.length xs.length) xs.length (List.map Value.string xs) := by simpa using h2
  exact h3
/-- What the walk of a frame's text keeps: the frame, its shape, the table. -/
structure Tx (w0 w : World) (f : Fr) (X : Nat) (n : ByteArray) (t : Bool) (a b : Int) : Prop where
  at_ : FAt w w0.heap.size f
  tab : Own.Tabs w
  below : Below w0.heap.size w0 w
  sh : w.heap[X]? = some (.cells #[.string n, .bool t, .int .i64 a, .int .i64 b] 56 (0, 0))
theorem Tx.on {w0 w w' : World} {f : Fr} {X : Nat} {n : ByteArray} {t : Bool} {a b : Int} (h : Tx w0 w f X n t a b) (hb : Below w.heap.size w w') : Tx w0 w' f X n t a b :=
  ⟨h.at_.on hb h.at_.lt, Own.tabs_below h.tab hb, h.below.trans (hb.mono h.below.size), (hb.block X (lt_of_block h.sh)).trans h.sh⟩
theorem Tx.alloc {w0 w : World} {f : Fr} {X : Nat} {n : ByteArray} {t : Bool} {a b : Int} (h : Tx w0 w f X n t a b) (o : Obj) : Tx w0 (w.alloc o) f X n t a b := h.on ((Below.refl _ _).alloc (Nat.le_refl _) o)
theorem Tx.drew {w0 w : World} {f : Fr} {X : Nat} {n : ByteArray} {t : Bool} {a b : Int} (h : Tx w0 w f X n t a b) : Tx w0 w.drew f X n t a b := h.on ⟨rfl, rfl, rfl, Nat.le_refl _, fun _ _ => rfl⟩
theorem Tx.new {w0 w w1 : World} {f : Fr} (h : FAt w w0.heap.size f) (ht : Own.Tabs w) (hb : Below w0.heap.size w0 w) (h1 : Below w.heap.size w w1) (n : ByteArray) (t : Bool) (a b : Int) :
    ∃ W, w1.alloc (.cells #[.string n, .bool t, .int .i64 a, .int .i64 b] 56) = W ∧ Tx w0 W f w1.heap.size n t a b := by
  have h2 : Below w.heap.size w (w1.alloc (.cells #[.string n, .bool t, .int .i64 a, .int .i64 b] 56)) := h1.alloc h1.size _
  refine ⟨_, rfl, h.on h2 h.lt, Own.tabs_below ht h2, hb.trans (h2.mono hb.size), ?_⟩
  rw [show (w1.alloc (.cells #[.string n, .bool t, .int .i64 a, .int .i64 b] 56)).heap = w1.heap.push (.cells #[.string n, .bool t, .int .i64 a, .int .i64 b] 56) from rfl, Array.getElem?_push, if_pos rfl]
theorem Tx.five {w0 w : World} {f : Fr} {X : Nat} {n : ByteArray} {t : Bool} {a b : Int} (h : Tx w0 w f X n t a b) :
    w.cell? ⟨w0.heap.size, 1, none⟩ = some (.int .u8 f.src) ∧ w.cell? ⟨w0.heap.size, 5, none⟩ = some (.int .u16 f.ec) ∧ w.cell? ⟨w0.heap.size, 6, none⟩ = some (.int .u8 f.ea) ∧ w.cell? ⟨w0.heap.size, 7, none⟩ = some (.int .u16 f.ei) ∧ w.cell? ⟨w0.heap.size, 8, none⟩ = some (.int .u16 f.hop) ∧ w.cell? ⟨X, 0, none⟩ = some (.string n) := by
  obtain ⟨c0, c1, c2, c3, c4, c5, c6, c7, c8, c9, c10, c11, c12, c13, c14, c15, c16, c17, c18⟩ := h.at_.cells
  exact ⟨c1, c5, c6, c7, c8, blk_cell h.sh 0⟩
/-- The numbers of a frame lie in their kinds. -/
structure Rng (f : Fr) : Prop where
  src : 0 ≤ f.src ∧ f.src < 256
  dst : 0 ≤ f.dst ∧ f.dst < 256
  sinc : 0 ≤ f.sinc ∧ f.sinc < 65536
  dinc : 0 ≤ f.dinc ∧ f.dinc < 65536
  ec : 0 ≤ f.ec ∧ f.ec < 65536
  ea : 0 ≤ f.ea ∧ f.ea < 256
  ei : 0 ≤ f.ei ∧ f.ei < 65536
  hop : 0 ≤ f.hop ∧ f.hop < 65536
  hc : 0 ≤ f.hc ∧ f.hc < 65536
  ha : 0 ≤ f.ha ∧ f.ha < 256
  hi : 0 ≤ f.hi ∧ f.hi < 65536
  blk : 0 ≤ f.blk ∧ f.blk < 256
  vinc : 0 ≤ f.vinc ∧ f.vinc < 65536
  vseq : 0 ≤ f.vseq ∧ f.vseq < 4294967296
  part : 0 ≤ f.part ∧ f.part < 256
  parts : 0 ≤ f.parts ∧ f.parts < 256
/-- The words that each text begins with. -/
def head5 (f : Fr) (n d : ByteArray) : List ByteArray := [n, dgs f.src, (⟨#[62]⟩ : ByteArray), d, etext f.ec f.ea f.ei ++ (⟨#[47]⟩ : ByteArray) ++ dgs f.hop]
theorem etext_size (a b c : Int) (ha : a ≤ 4294967296) (hb : b ≤ 4294967296) (hc : c ≤ 4294967296) : (etext a b c).size ≤ 62 := by
  have := dgs_size a ha
  have := dgs_size b hb
  have := dgs_size c hc
  unfold etext
  simp only [ByteArray.size_append]
  show (dgs a).size + 1 + (dgs b).size + 1 + (dgs c).size ≤ 62
  omega
set_option maxHeartbeats 4000000 in
set_option maxRecDepth 100000 in
theorem text_plain (w : World) (f : Fr) (hr : Rng f) (h3 : f.kind ≠ 3) (h4 : f.kind ≠ 4) (n : ByteArray) (a b : Int) (o : Bool) (hn : n.size ≤ 100) (hs : Own.frame_shapes.f f.kind = some (n, true, a, b, o)) (ht : Own.Tabs w) :
    Calls Tryd.prog 12 #[.agg (FC f)] w fun e w' => e = .returned (.string (txt (head5 f n (dgs f.dst)))) ∧ Below w.heap.size w w' := by
  have HSH := Aside0.mk fun W : World => shapes_f f.kind W _ _ _ _ _ hs
  have r1 := dgs_size f.src (by have := hr.src; omega)
  have r2 := dgs_size f.dst (by have := hr.dst; omega)
  have r3 := dgs_size f.hop (by have := hr.hop; omega)
  have r4 := etext_size f.ec f.ea f.ei (by have := hr.ec; omega) (by have := hr.ea; omega) (by have := hr.ei; omega)
  have HSRC := Aside0.mk fun W ht => itoa_g f.src hr.src.1 (by have := hr.src; omega) W ht
  have HDST := Aside0.mk fun W ht => itoa_g f.dst hr.dst.1 (by have := hr.dst; omega) W ht
  have HHOP := Aside0.mk fun W ht => itoa_g f.hop hr.hop.1 (by have := hr.hop; omega) W ht
  have HEP := Aside0.mk fun W ht => etext_f W f.ec f.ea f.ei hr.ec hr.ea hr.ei ht
  have i1 : IntKind.i64.wrap f.src = f.src := IntWalk.i64_in f.src (by have := hr.src; omega)
  have i2 : IntKind.i64.wrap f.dst = f.dst := IntWalk.i64_in f.dst (by have := hr.dst; omega)
  have i3 : IntKind.i64.wrap f.hop = f.hop := IntWalk.i64_in f.hop (by have := hr.hop; omega)
  have HTX := Aside0.mk (fun c0 d0 => txt_f c0 d0 (head5 f n (dgs f.dst)))
  have HSM := Aside0.mk (show ∀ x ∈ head5 f n (dgs f.dst), x.size ≤ 100 from by
    intro x hx
    simp only [head5, List.mem_cons, List.not_mem_nil, or_false] at hx
    rcases hx with rfl | rfl | rfl | rfl | rfl
    · exact hn
    · omega
    · decide
    · omega
    · simp only [ByteArray.size_append]
      show _ + 1 + _ ≤ 100
      omega)
  have HL5 := Aside0.mk (show head5 f n (dgs f.dst) = [n, dgs f.src, (⟨#[62]⟩ : ByteArray), dgs f.dst, etext f.ec f.ea f.ei ++ (⟨#[47]⟩ : ByteArray) ++ dgs f.hop] from rfl)
  generalize head5 f n (dgs f.dst) = L at *
  generalize dgs f.src = S1 at *
  generalize dgs f.dst = S2 at *
  generalize dgs f.hop = S3 at *
  generalize etext f.ec f.ea f.ei = S4 at *
  have s1 : (9223372036854775807 < S4.size + 1) = False := eq_false (by omega)
  have s2 : (9223372036854775807 < S4.size + 1 + S3.size) = False := eq_false (by omega)
  have k3 : (f.kind == 3) = false := by simpa using h3
  have k4 : (f.kind == 4) = false := by simpa using h4
  have HT := Aside0.mk (Own.tabs_alloc ht (.cells (FC f) 29))
  have HN := Aside0.mk (FAt.new w f)
  have HB := Aside0.mk ((Below.refl w.heap.size w).alloc (Nat.le_refl _) (.cells (FC f) 29))
  clear hs ht hr hn h3 h4
  go_enter Tryd.func12, Tryd.ntmps12
  go_upto_region 1 with (fail)
  generalize w.alloc (.cells (FC f) 29) = W0 at *
  obtain ⟨c0, c1, c2, c3, c4, c5, c6, c7, c8, c9, c10, c11, c12, c13, c14, c15, c16, c17, c18⟩ := HN.out.cells
  go_upto_region 2 with (go_at_call 29; (with_reducible refine (HSH.out _).mono ?_); rintro e w1 ⟨rfl, hb⟩; obtain ⟨W1, hW1, hx⟩ := Tx.new HN.out HT.out HB.out hb n true a b; have HX := Aside0.mk hx; clear HN HB HT hb hx c0 c1 c2 c3 c4 c5 c6 c7 c8 c9 c10 c11 c12 c13 c14 c15 c16 c17 c18)
  clear hW1
  generalize w1.heap.size = X at *
  obtain ⟨c0, c1, c2, c3, c4, c5, c6, c7, c8, c9, c10, c11, c12, c13, c14, c15, c16, c17, c18⟩ := HX.out.at_.cells
  have x1 : W1.cell? ⟨X, 1, none⟩ = some (.bool true) := blk_cell HX.out.sh 1
  go_upto_region 5 with (go_at_call 31; (with_reducible refine (HDST.out _ HX.out.tab).mono ?_); rintro e w2 ⟨rfl, hb⟩; have n0_ := Aside0.mk (HX.out.on hb); clear HX hb c0 c1 c2 c3 c4 c5 c6 c7 c8 c9 c10 c11 c12 c13 c14 c15 c16 c17 c18 x1; have HX := n0_; clear n0_)
  have n0_ := Aside0.mk HX.out.drew
  clear HX
  have HX := n0_
  clear n0_
  generalize hEq : w.heap.size = E at *
  have HSZ := Aside0.mk hEq
  clear hEq
  go_region_held_law (fun w' => w'.cell? ⟨E, 1, none⟩ = some (.int .u8 f.src) ∧ w'.cell? ⟨E, 5, none⟩ = some (.int .u16 f.ec) ∧ w'.cell? ⟨E, 6, none⟩ = some (.int .u8 f.ea) ∧ w'.cell? ⟨E, 7, none⟩ = some (.int .u16 f.ei) ∧ w'.cell? ⟨E, 8, none⟩ = some (.int .u16 f.hop) ∧ w'.cell? ⟨X, 0, none⟩ = some (.string n)) ((rw [← HSZ.out]; first | exact HX.out.five | exact (HX.out.alloc _).five)) (first | (go_at_call 31; (with_reducible refine (HSRC.out _ HX.out.tab).mono ?_); rintro e w3 ⟨rfl, hb⟩; have n0_ := Aside0.mk (HX.out.on hb); clear HX hb; have HX := n0_; clear n0_) | (go_at_call 31; (with_reducible refine (HHOP.out _ HX.out.tab).mono ?_); rintro e w3 ⟨rfl, hb⟩; have n0_ := Aside0.mk (HX.out.on hb); clear HX hb; have HX := n0_; clear n0_) | (go_at_call 32; (with_reducible refine (HEP.out _ HX.out.tab).mono ?_); rintro e w3 ⟨rfl, hb⟩; have n0_ := Aside0.mk (HX.out.on hb); clear HX hb; have HX := n0_; clear n0_))
  have hX := HX.out.alloc (.cells #[.string n, .string S1, .string (⟨#[62]⟩ : ByteArray), .string S2, .string (S4 ++ (⟨#[47]⟩ : ByteArray) ++ S3)] 9)
  have hR := lit_R w3 [n, S1, (⟨#[62]⟩ : ByteArray), S2, S4 ++ (⟨#[47]⟩ : ByteArray) ++ S3] 0 (Nat.zero_le _) (by simp)
  have hR2 : Kd.R Kd.string 9 (w3.alloc (.cells #[.string n, .string S1, .string (⟨#[62]⟩ : ByteArray), .string S2, .string (S4 ++ (⟨#[47]⟩ : ByteArray) ++ S3)] 9)) 0 (fun _ => True) (.slice (some ⟨w3.heap.size, 0, none⟩) 5 5) [n, S1, (⟨#[62]⟩ : ByteArray), S2, S4 ++ (⟨#[47]⟩ : ByteArray) ++ S3] := hR
  clear hR HX
  generalize w3.alloc (.cells #[.string n, .string S1, .string (⟨#[62]⟩ : ByteArray), .string S2, .string (S4 ++ (⟨#[47]⟩ : ByteArray) ++ S3)] 9) = W6 at *
  generalize w3.heap.size = G at *
  have HX := Aside0.mk hX
  clear hX
  have HJ := Aside0.mk (show Calls Tryd.prog 34 #[.slice (some ⟨G, 0, none⟩) 5 5, .string (⟨#[32]⟩ : ByteArray)] W6 fun e w' => e = .returned (.string (txt L)) ∧ Below W6.heap.size W6 w' from by
    have hl := HL5.out
    have h1 := HTX.out (some ⟨G, 0, none⟩) 5 W6 (by rw [hl]; exact (Kd.R_reads' hR2).2.2) (by rw [hl]; simp) (by rw [hl]; simp) HSM.out
    have h2 : L.length = 5 := by rw [hl]; rfl
    rw [h2] at h1
    exact h1)
  clear hR2 HTX HSM HL5
  have c0 : W6.cell? ⟨E, 0, none⟩ = some (.int .i64 f.kind) := by rw [← HSZ.out]; exact HX.out.at_.cells.1
  go_wp2_with (go_at_call 34; (with_reducible refine HJ.out.mono ?_); rintro e w4 ⟨rfl, hb⟩; have n0_ := Aside0.mk (HX.out.on hb); clear HX hb c0; have HX := n0_; clear n0_)
  go_ret
  exact ⟨rfl, HX.out.below⟩
end Go.Proofs.YtkcaifpmceoflaaDoor.Frm
namespace Go.Proofs.YtkcaifpmceoflaaDoor.Frm
open Go.RowKit Go.Proofs.YtkcaifpmceoflaaDoorW.PrintWords Go.Proofs.YtkcaifpmceoflaaDoorW.PrintLast Go.Proofs.YtkcaifpmceoflaaDoorW.PrintMore
set_option linter.unusedVariables false
theorem info9 : (Tryd.prog.info? 9).map (fun i => (i.zero, i.size, i.bytes)) = some (some (.string ⟨#[]⟩), 1, 16) := by kernel_rfl
theorem txt_n (A0 : Option Addr) (N c0 : Nat) (l : List ByteArray) (hN : l.length = N) (w : World) (hr0 : Kd.C Kd.string w A0 l.length l) (hc0 : l.length ≤ c0) (h1 : l.length ≤ 20) (h2 : ∀ x ∈ l, x.size ≤ 100) :
    Calls Tryd.prog 34 #[.slice A0 N c0, .string (⟨#[32]⟩ : ByteArray)] w fun e w' => e = .returned (.string (txt l)) ∧ Below w.heap.size w w' := by
  subst hN
  exact txt_f A0 c0 l w hr0 hc0 h1 h2
theorem Tx.grown {w0 w w' : World} {f : Fr} {X : Nat} {n : ByteArray} {t : Bool} {a b : Int} {base : Nat} {ok : Nat → Prop} {v : Value} {xs : List ByteArray} (h : Tx w0 w f X n t a b) (ht : Own.Tabs w0) (hb : Below w0.heap.size w0 w') (hR : Kd.R Kd.string 9 w base ok v xs) (hg : w.grownBy w' v.ownBlock) : Tx w0 w' f X n t a b :=
  ⟨blk_grown h.at_ hg (Kd.R_ne hR h.at_ (by decide)), Own.tabs_below ht hb, hb, blk_grown h.sh hg (Kd.R_ne hR h.sh (by decide))⟩
set_option maxHeartbeats 4000000 in
set_option maxRecDepth 100000 in
theorem text_in (w : World) (f : Fr) (hr : Rng f) (h3 : f.kind = 3) (hw : f.wants = true) (n : ByteArray) (a b : Int) (o : Bool) (hn : n.size ≤ 100) (hs : Own.frame_shapes.f f.kind = some (n, true, a, b, o)) (ht : Own.Tabs w) :
    Calls Tryd.prog 12 #[.agg (FC f)] w fun e w' => e = .returned (.string (txt (head5 f n (dgs f.dst) ++ [(⟨#[104, 105, 103, 104]⟩ : ByteArray), etext f.hc f.ha f.hi] ++ [(⟨#[105, 110]⟩ : ByteArray)]))) ∧ Below w.heap.size w w' := by
  have HSH := Aside0.mk fun W : World => shapes_f f.kind W _ _ _ _ _ hs
  have r1 := dgs_size f.src (by have := hr.src; omega)
  have r2 := dgs_size f.dst (by have := hr.dst; omega)
  have r3 := dgs_size f.hop (by have := hr.hop; omega)
  have r4 := etext_size f.ec f.ea f.ei (by have := hr.ec; omega) (by have := hr.ea; omega) (by have := hr.ei; omega)
  have HSRC := Aside0.mk fun W ht => itoa_g f.src hr.src.1 (by have := hr.src; omega) W ht
  have HDST := Aside0.mk fun W ht => itoa_g f.dst hr.dst.1 (by have := hr.dst; omega) W ht
  have HHOP := Aside0.mk fun W ht => itoa_g f.hop hr.hop.1 (by have := hr.hop; omega) W ht
  have HEP := Aside0.mk fun W ht => etext_f W f.ec f.ea f.ei hr.ec hr.ea hr.ei ht
  have HEP2 := Aside0.mk fun W ht => etext_f W f.hc f.ha f.hi hr.hc hr.ha hr.hi ht
  have r5 := etext_size f.hc f.ha f.hi (by have := hr.hc; omega) (by have := hr.ha; omega) (by have := hr.hi; omega)
  have HALL := Aside0.mk (fun c0 d0 => txt_n c0 8 d0 (head5 f n (dgs f.dst) ++ [(⟨#[104, 105, 103, 104]⟩ : ByteArray), etext f.hc f.ha f.hi] ++ [(⟨#[105, 110]⟩ : ByteArray)]) rfl)
  unfold head5 at HALL
  unfold head5
  have i1 : IntKind.i64.wrap f.src = f.src := IntWalk.i64_in f.src (by have := hr.src; omega)
  have i2 : IntKind.i64.wrap f.dst = f.dst := IntWalk.i64_in f.dst (by have := hr.dst; omega)
  have i3 : IntKind.i64.wrap f.hop = f.hop := IntWalk.i64_in f.hop (by have := hr.hop; omega)
  generalize etext f.hc f.ha f.hi = S5 at *
  generalize dgs f.src = S1 at *
  generalize dgs f.dst = S2 at *
  generalize dgs f.hop = S3 at *
  generalize etext f.ec f.ea f.ei = S4 at *
  have HSM := Aside0.mk (show ∀ x ∈ [n, S1, (⟨#[62]⟩ : ByteArray), S2, S4 ++ (⟨#[47]⟩ : ByteArray) ++ S3] ++ [(⟨#[104, 105, 103, 104]⟩ : ByteArray), S5] ++ [(⟨#[105, 110]⟩ : ByteArray)], x.size ≤ 100 from by
    intro x hx
    simp only [List.cons_append, List.nil_append, List.mem_cons, List.not_mem_nil, or_false] at hx
    rcases hx with rfl | rfl | rfl | rfl | rfl | rfl | rfl | rfl
    · exact hn
    · omega
    · decide
    · omega
    · simp only [ByteArray.size_append]
      show _ + 1 + _ ≤ 100
      omega
    · decide
    · omega
    · decide)
  have s1 : (9223372036854775807 < S4.size + 1) = False := eq_false (by omega)
  have s2 : (9223372036854775807 < S4.size + 1 + S3.size) = False := eq_false (by omega)
  have k3 : (f.kind == 3) = true := by rw [h3]; rfl
  have k4 : (f.kind == 4) = false := by rw [h3]; rfl
  have HT := Aside0.mk (Own.tabs_alloc ht (.cells (FC f) 29))
  have HN := Aside0.mk (FAt.new w f)
  have HB := Aside0.mk ((Below.refl w.heap.size w).alloc (Nat.le_refl _) (.cells (FC f) 29))
  have HWA := Aside0.mk hw
  clear hw
  have HT0 := Aside0.mk ht
  clear hs ht hr hn h3
  go_enter Tryd.func12, Tryd.ntmps12
  go_upto_region 1 with (fail)
  generalize w.alloc (.cells (FC f) 29) = W0 at *
  obtain ⟨c0, c1, c2, c3, c4, c5, c6, c7, c8, c9, c10, c11, c12, c13, c14, c15, c16, c17, c18⟩ := HN.out.cells
  go_upto_region 2 with (go_at_call 29; (with_reducible refine (HSH.out _).mono ?_); rintro e w1 ⟨rfl, hb⟩; obtain ⟨W1, hW1, hx⟩ := Tx.new HN.out HT.out HB.out hb n true a b; have HX := Aside0.mk hx; clear HN HB HT hb hx c0 c1 c2 c3 c4 c5 c6 c7 c8 c9 c10 c11 c12 c13 c14 c15 c16 c17 c18)
  clear hW1
  generalize w1.heap.size = X at *
  obtain ⟨c0, c1, c2, c3, c4, c5, c6, c7, c8, c9, c10, c11, c12, c13, c14, c15, c16, c17, c18⟩ := HX.out.at_.cells
  have x1 : W1.cell? ⟨X, 1, none⟩ = some (.bool true) := blk_cell HX.out.sh 1
  go_upto_region 5 with (go_at_call 31; (with_reducible refine (HDST.out _ HX.out.tab).mono ?_); rintro e w2 ⟨rfl, hb⟩; have n0_ := Aside0.mk (HX.out.on hb); clear HX hb c0 c1 c2 c3 c4 c5 c6 c7 c8 c9 c10 c11 c12 c13 c14 c15 c16 c17 c18 x1; have HX := n0_; clear n0_)
  have n0_ := Aside0.mk HX.out.drew
  clear HX
  have HX := n0_
  clear n0_
  generalize hEq : w.heap.size = E at *
  have HSZ := Aside0.mk hEq
  clear hEq
  go_region_held_law (fun w' => w'.cell? ⟨E, 1, none⟩ = some (.int .u8 f.src) ∧ w'.cell? ⟨E, 5, none⟩ = some (.int .u16 f.ec) ∧ w'.cell? ⟨E, 6, none⟩ = some (.int .u8 f.ea) ∧ w'.cell? ⟨E, 7, none⟩ = some (.int .u16 f.ei) ∧ w'.cell? ⟨E, 8, none⟩ = some (.int .u16 f.hop) ∧ w'.cell? ⟨X, 0, none⟩ = some (.string n)) ((rw [← HSZ.out]; first | exact HX.out.five | exact (HX.out.alloc _).five)) (first | (go_at_call 31; (with_reducible refine (HSRC.out _ HX.out.tab).mono ?_); rintro e w3 ⟨rfl, hb⟩; have n0_ := Aside0.mk (HX.out.on hb); clear HX hb; have HX := n0_; clear n0_) | (go_at_call 31; (with_reducible refine (HHOP.out _ HX.out.tab).mono ?_); rintro e w3 ⟨rfl, hb⟩; have n0_ := Aside0.mk (HX.out.on hb); clear HX hb; have HX := n0_; clear n0_) | (go_at_call 32; (with_reducible refine (HEP.out _ HX.out.tab).mono ?_); rintro e w3 ⟨rfl, hb⟩; have n0_ := Aside0.mk (HX.out.on hb); clear HX hb; have HX := n0_; clear n0_))
  have hX := HX.out.alloc (.cells #[.string n, .string S1, .string (⟨#[62]⟩ : ByteArray), .string S2, .string (S4 ++ (⟨#[47]⟩ : ByteArray) ++ S3)] 9)
  have hR := lit_R w3 [n, S1, (⟨#[62]⟩ : ByteArray), S2, S4 ++ (⟨#[47]⟩ : ByteArray) ++ S3] w.heap.size (by have := HX.out.below.size; exact this) (by simp)
  have hR2 : Kd.R Kd.string 9 (w3.alloc (.cells #[.string n, .string S1, .string (⟨#[62]⟩ : ByteArray), .string S2, .string (S4 ++ (⟨#[47]⟩ : ByteArray) ++ S3)] 9)) w.heap.size (fun _ => True) (.slice (some ⟨w3.heap.size, 0, none⟩) 5 5) [n, S1, (⟨#[62]⟩ : ByteArray), S2, S4 ++ (⟨#[47]⟩ : ByteArray) ++ S3] := hR
  clear hR HX
  generalize w3.alloc (.cells #[.string n, .string S1, .string (⟨#[62]⟩ : ByteArray), .string S2, .string (S4 ++ (⟨#[47]⟩ : ByteArray) ++ S3)] 9) = W6 at *
  generalize w3.heap.size = G at *
  have HX := Aside0.mk hX
  clear hX
  have HR := Aside0.mk hR2
  clear hR2
  obtain ⟨c0, c1, c2, c3, c4, c5, c6, c7, c8, c9, c10, c11, c12, c13, c14, c15, c16, c17, c18⟩ := HX.out.at_.cells
  rw [HSZ.out] at c0 c1 c2 c3 c4 c5 c6 c7 c8 c9 c10 c11 c12 c13 c14 c15 c16 c17 c18
  rw [HWA.out] at c12
  go_wp2_with (first | (go_at_call 32; (with_reducible refine (HEP2.out _ HX.out.tab).mono ?_); rintro e w4 ⟨rfl, hb⟩; have n0_ := Aside0.mk (HX.out.on hb); have n1_ := Aside0.mk (Kd.R_below HR.out hb); clear HX HR hb c0 c1 c2 c3 c4 c5 c6 c7 c8 c9 c10 c11 c12 c13 c14 c15 c16 c17 c18; have HX := n0_; have HR := n1_; clear n0_ n1_) | ((with_reducible refine gate_builtin (b := .append) (xs := #[.tmp 41, .tmp 45]) rfl ?_); at_builtin; refine Kd.R_append_rows Kd.string (w0 := w) w.heap.size rfl (.tmp 41) (.tmp 45) 61 9 (.string ⟨#[]⟩) 16 rfl Tryd.underlying61 info9 rfl (by decide) (by omega) (.slice (some ⟨G, 0, none⟩) 5 5) ([n, S1, (⟨#[62]⟩ : ByteArray), S2, S4 ++ (⟨#[47]⟩ : ByteArray) ++ S3]) ([(⟨#[104, 105, 103, 104]⟩ : ByteArray), S5]) _ _ _ (fun _ => True) (fun _ => False) rfl rfl ?aO ?aR (fun _ _ h => h) (fun _ h => h.elim) (fun _ _ => trivial) ?aB ?aS ?aL ?_; (case aO => exact Kd.R_alloc HR.out _); (case aR => exact (Kd.R_reads' (lit_R _ ([(⟨#[104, 105, 103, 104]⟩ : ByteArray), S5]) 0 (Nat.zero_le _) (by simp))).2.2); (case aB => exact (HX.out.alloc _).below); (case aS => exact (HX.out.alloc _).below.size); (case aL => simp); intro v5 w5 ho hb hg hat; have n0_ := Aside0.mk ((HX.out.alloc _).grown HT0.out hb (Kd.R_alloc HR.out _) hg); have n1_ := Aside0.mk ho; clear HX HR ho hb hg hat ; have HX := n0_; have HR := n1_; clear n0_ n1_; obtain ⟨A6, k6, e_⟩ := Kd.R_slice HR.out; have e7_ : v5 = .slice A6 7 k6 := e_; clear e_; subst e7_; obtain ⟨c0, c1, c2, c3, c4, c5, c6, c7, c8, c9, c10, c11, c12, c13, c14, c15, c16, c17, c18⟩ := HX.out.at_.cells; rw [HSZ.out] at c0 c1 c2 c3 c4 c5 c6 c7 c8 c9 c10 c11 c12 c13 c14 c15 c16 c17 c18; rw [HWA.out] at c12) | ((with_reducible refine gate_builtin (b := .append) (xs := #[.tmp 49, .tmp 50]) rfl ?_); at_builtin; refine Kd.R_append_rows Kd.string (w0 := w) w.heap.size rfl (.tmp 49) (.tmp 50) 61 9 (.string ⟨#[]⟩) 16 rfl Tryd.underlying61 info9 rfl (by decide) (by omega) (.slice A6 7 k6) ([n, S1, (⟨#[62]⟩ : ByteArray), S2, S4 ++ (⟨#[47]⟩ : ByteArray) ++ S3] ++ [(⟨#[104, 105, 103, 104]⟩ : ByteArray), S5]) ([(⟨#[105, 110]⟩ : ByteArray)]) _ _ _ (fun _ => True) (fun _ => False) rfl rfl ?aO ?aR (fun _ _ h => h) (fun _ h => h.elim) (fun _ _ => trivial) ?aB ?aS ?aL ?_; (case aO => exact Kd.R_alloc HR.out _); (case aR => exact (Kd.R_reads' (lit_R _ ([(⟨#[105, 110]⟩ : ByteArray)]) 0 (Nat.zero_le _) (by simp))).2.2); (case aB => exact (HX.out.alloc _).below); (case aS => exact (HX.out.alloc _).below.size); (case aL => simp); intro v7 w7 ho hb hg hat; have n0_ := Aside0.mk ((HX.out.alloc _).grown HT0.out hb (Kd.R_alloc HR.out _) hg); have n1_ := Aside0.mk ho; clear HX HR ho hb hg hat c0 c1 c2 c3 c4 c5 c6 c7 c8 c9 c10 c11 c12 c13 c14 c15 c16 c17 c18; have HX := n0_; have HR := n1_; clear n0_ n1_; obtain ⟨A8, k8, e_⟩ := Kd.R_slice HR.out; have e7_ : v7 = .slice A8 8 k8 := e_; clear e_; subst e7_) | (go_at_call 34; (with_reducible refine (HALL.out _ _ _ (Kd.R_reads' HR.out).2.2 (Kd.R_reads' HR.out).2.1 ?h1 ?h2).mono ?_); (case h1 => simp); (case h2 => exact HSM.out); rintro e w6 ⟨rfl, hb⟩; have n0_ := Aside0.mk (HX.out.on hb); clear HX HR hb; have HX := n0_; clear n0_))
  go_ret
  exact ⟨rfl, HX.out.below⟩
set_option maxHeartbeats 4000000 in
set_option maxRecDepth 100000 in
theorem text_out (w : World) (f : Fr) (hr : Rng f) (h3 : f.kind = 3) (hw : f.wants = false) (n : ByteArray) (a b : Int) (o : Bool) (hn : n.size ≤ 100) (hs : Own.frame_shapes.f f.kind = some (n, true, a, b, o)) (ht : Own.Tabs w) :
    Calls Tryd.prog 12 #[.agg (FC f)] w fun e w' => e = .returned (.string (txt (head5 f n (dgs f.dst) ++ [(⟨#[104, 105, 103, 104]⟩ : ByteArray), etext f.hc f.ha f.hi] ++ [(⟨#[111, 117, 116]⟩ : ByteArray)]))) ∧ Below w.heap.size w w' := by
  have HSH := Aside0.mk fun W : World => shapes_f f.kind W _ _ _ _ _ hs
  have r1 := dgs_size f.src (by have := hr.src; omega)
  have r2 := dgs_size f.dst (by have := hr.dst; omega)
  have r3 := dgs_size f.hop (by have := hr.hop; omega)
  have r4 := etext_size f.ec f.ea f.ei (by have := hr.ec; omega) (by have := hr.ea; omega) (by have := hr.ei; omega)
  have HSRC := Aside0.mk fun W ht => itoa_g f.src hr.src.1 (by have := hr.src; omega) W ht
  have HDST := Aside0.mk fun W ht => itoa_g f.dst hr.dst.1 (by have := hr.dst; omega) W ht
  have HHOP := Aside0.mk fun W ht => itoa_g f.hop hr.hop.1 (by have := hr.hop; omega) W ht
  have HEP := Aside0.mk fun W ht => etext_f W f.ec f.ea f.ei hr.ec hr.ea hr.ei ht
  have HEP2 := Aside0.mk fun W ht => etext_f W f.hc f.ha f.hi hr.hc hr.ha hr.hi ht
  have r5 := etext_size f.hc f.ha f.hi (by have := hr.hc; omega) (by have := hr.ha; omega) (by have := hr.hi; omega)
  have HALL := Aside0.mk (fun c0 d0 => txt_n c0 8 d0 (head5 f n (dgs f.dst) ++ [(⟨#[104, 105, 103, 104]⟩ : ByteArray), etext f.hc f.ha f.hi] ++ [(⟨#[111, 117, 116]⟩ : ByteArray)]) rfl)
  unfold head5 at HALL
  unfold head5
  have i1 : IntKind.i64.wrap f.src = f.src := IntWalk.i64_in f.src (by have := hr.src; omega)
  have i2 : IntKind.i64.wrap f.dst = f.dst := IntWalk.i64_in f.dst (by have := hr.dst; omega)
  have i3 : IntKind.i64.wrap f.hop = f.hop := IntWalk.i64_in f.hop (by have := hr.hop; omega)
  generalize etext f.hc f.ha f.hi = S5 at *
  generalize dgs f.src = S1 at *
  generalize dgs f.dst = S2 at *
  generalize dgs f.hop = S3 at *
  generalize etext f.ec f.ea f.ei = S4 at *
  have HSM := Aside0.mk (show ∀ x ∈ [n, S1, (⟨#[62]⟩ : ByteArray), S2, S4 ++ (⟨#[47]⟩ : ByteArray) ++ S3] ++ [(⟨#[104, 105, 103, 104]⟩ : ByteArray), S5] ++ [(⟨#[111, 117, 116]⟩ : ByteArray)], x.size ≤ 100 from by
    intro x hx
    simp only [List.cons_append, List.nil_append, List.mem_cons, List.not_mem_nil, or_false] at hx
    rcases hx with rfl | rfl | rfl | rfl | rfl | rfl | rfl | rfl
    · exact hn
    · omega
    · decide
    · omega
    · simp only [ByteArray.size_append]
      show _ + 1 + _ ≤ 100
      omega
    · decide
    · omega
    · decide)
  have s1 : (9223372036854775807 < S4.size + 1) = False := eq_false (by omega)
  have s2 : (9223372036854775807 < S4.size + 1 + S3.size) = False := eq_false (by omega)
  have k3 : (f.kind == 3) = true := by rw [h3]; rfl
  have k4 : (f.kind == 4) = false := by rw [h3]; rfl
  have HT := Aside0.mk (Own.tabs_alloc ht (.cells (FC f) 29))
  have HN := Aside0.mk (FAt.new w f)
  have HB := Aside0.mk ((Below.refl w.heap.size w).alloc (Nat.le_refl _) (.cells (FC f) 29))
  have HWA := Aside0.mk hw
  clear hw
  have HT0 := Aside0.mk ht
  clear hs ht hr hn h3
  go_enter Tryd.func12, Tryd.ntmps12
  go_upto_region 1 with (fail)
  generalize w.alloc (.cells (FC f) 29) = W0 at *
  obtain ⟨c0, c1, c2, c3, c4, c5, c6, c7, c8, c9, c10, c11, c12, c13, c14, c15, c16, c17, c18⟩ := HN.out.cells
  go_upto_region 2 with (go_at_call 29; (with_reducible refine (HSH.out _).mono ?_); rintro e w1 ⟨rfl, hb⟩; obtain ⟨W1, hW1, hx⟩ := Tx.new HN.out HT.out HB.out hb n true a b; have HX := Aside0.mk hx; clear HN HB HT hb hx c0 c1 c2 c3 c4 c5 c6 c7 c8 c9 c10 c11 c12 c13 c14 c15 c16 c17 c18)
  clear hW1
  generalize w1.heap.size = X at *
  obtain ⟨c0, c1, c2, c3, c4, c5, c6, c7, c8, c9, c10, c11, c12, c13, c14, c15, c16, c17, c18⟩ := HX.out.at_.cells
  have x1 : W1.cell? ⟨X, 1, none⟩ = some (.bool true) := blk_cell HX.out.sh 1
  go_upto_region 5 with (go_at_call 31; (with_reducible refine (HDST.out _ HX.out.tab).mono ?_); rintro e w2 ⟨rfl, hb⟩; have n0_ := Aside0.mk (HX.out.on hb); clear HX hb c0 c1 c2 c3 c4 c5 c6 c7 c8 c9 c10 c11 c12 c13 c14 c15 c16 c17 c18 x1; have HX := n0_; clear n0_)
  have n0_ := Aside0.mk HX.out.drew
  clear HX
  have HX := n0_
  clear n0_
  generalize hEq : w.heap.size = E at *
  have HSZ := Aside0.mk hEq
  clear hEq
  go_region_held_law (fun w' => w'.cell? ⟨E, 1, none⟩ = some (.int .u8 f.src) ∧ w'.cell? ⟨E, 5, none⟩ = some (.int .u16 f.ec) ∧ w'.cell? ⟨E, 6, none⟩ = some (.int .u8 f.ea) ∧ w'.cell? ⟨E, 7, none⟩ = some (.int .u16 f.ei) ∧ w'.cell? ⟨E, 8, none⟩ = some (.int .u16 f.hop) ∧ w'.cell? ⟨X, 0, none⟩ = some (.string n)) ((rw [← HSZ.out]; first | exact HX.out.five | exact (HX.out.alloc _).five)) (first | (go_at_call 31; (with_reducible refine (HSRC.out _ HX.out.tab).mono ?_); rintro e w3 ⟨rfl, hb⟩; have n0_ := Aside0.mk (HX.out.on hb); clear HX hb; have HX := n0_; clear n0_) | (go_at_call 31; (with_reducible refine (HHOP.out _ HX.out.tab).mono ?_); rintro e w3 ⟨rfl, hb⟩; have n0_ := Aside0.mk (HX.out.on hb); clear HX hb; have HX := n0_; clear n0_) | (go_at_call 32; (with_reducible refine (HEP.out _ HX.out.tab).mono ?_); rintro e w3 ⟨rfl, hb⟩; have n0_ := Aside0.mk (HX.out.on hb); clear HX hb; have HX := n0_; clear n0_))
  have hX := HX.out.alloc (.cells #[.string n, .string S1, .string (⟨#[62]⟩ : ByteArray), .string S2, .string (S4 ++ (⟨#[47]⟩ : ByteArray) ++ S3)] 9)
  have hR := lit_R w3 [n, S1, (⟨#[62]⟩ : ByteArray), S2, S4 ++ (⟨#[47]⟩ : ByteArray) ++ S3] w.heap.size (by have := HX.out.below.size; exact this) (by simp)
  have hR2 : Kd.R Kd.string 9 (w3.alloc (.cells #[.string n, .string S1, .string (⟨#[62]⟩ : ByteArray), .string S2, .string (S4 ++ (⟨#[47]⟩ : ByteArray) ++ S3)] 9)) w.heap.size (fun _ => True) (.slice (some ⟨w3.heap.size, 0, none⟩) 5 5) [n, S1, (⟨#[62]⟩ : ByteArray), S2, S4 ++ (⟨#[47]⟩ : ByteArray) ++ S3] := hR
  clear hR HX
  generalize w3.alloc (.cells #[.string n, .string S1, .string (⟨#[62]⟩ : ByteArray), .string S2, .string (S4 ++ (⟨#[47]⟩ : ByteArray) ++ S3)] 9) = W6 at *
  generalize w3.heap.size = G at *
  have HX := Aside0.mk hX
  clear hX
  have HR := Aside0.mk hR2
  clear hR2
  obtain ⟨c0, c1, c2, c3, c4, c5, c6, c7, c8, c9, c10, c11, c12, c13, c14, c15, c16, c17, c18⟩ := HX.out.at_.cells
  rw [HSZ.out] at c0 c1 c2 c3 c4 c5 c6 c7 c8 c9 c10 c11 c12 c13 c14 c15 c16 c17 c18
  rw [HWA.out] at c12
  go_wp2_with (first | (go_at_call 32; (with_reducible refine (HEP2.out _ HX.out.tab).mono ?_); rintro e w4 ⟨rfl, hb⟩; have n0_ := Aside0.mk (HX.out.on hb); have n1_ := Aside0.mk (Kd.R_below HR.out hb); clear HX HR hb c0 c1 c2 c3 c4 c5 c6 c7 c8 c9 c10 c11 c12 c13 c14 c15 c16 c17 c18; have HX := n0_; have HR := n1_; clear n0_ n1_) | ((with_reducible refine gate_builtin (b := .append) (xs := #[.tmp 41, .tmp 45]) rfl ?_); at_builtin; refine Kd.R_append_rows Kd.string (w0 := w) w.heap.size rfl (.tmp 41) (.tmp 45) 61 9 (.string ⟨#[]⟩) 16 rfl Tryd.underlying61 info9 rfl (by decide) (by omega) (.slice (some ⟨G, 0, none⟩) 5 5) ([n, S1, (⟨#[62]⟩ : ByteArray), S2, S4 ++ (⟨#[47]⟩ : ByteArray) ++ S3]) ([(⟨#[104, 105, 103, 104]⟩ : ByteArray), S5]) _ _ _ (fun _ => True) (fun _ => False) rfl rfl ?aO ?aR (fun _ _ h => h) (fun _ h => h.elim) (fun _ _ => trivial) ?aB ?aS ?aL ?_; (case aO => exact Kd.R_alloc HR.out _); (case aR => exact (Kd.R_reads' (lit_R _ ([(⟨#[104, 105, 103, 104]⟩ : ByteArray), S5]) 0 (Nat.zero_le _) (by simp))).2.2); (case aB => exact (HX.out.alloc _).below); (case aS => exact (HX.out.alloc _).below.size); (case aL => simp); intro v5 w5 ho hb hg hat; have n0_ := Aside0.mk ((HX.out.alloc _).grown HT0.out hb (Kd.R_alloc HR.out _) hg); have n1_ := Aside0.mk ho; clear HX HR ho hb hg hat ; have HX := n0_; have HR := n1_; clear n0_ n1_; obtain ⟨A6, k6, e_⟩ := Kd.R_slice HR.out; have e7_ : v5 = .slice A6 7 k6 := e_; clear e_; subst e7_; obtain ⟨c0, c1, c2, c3, c4, c5, c6, c7, c8, c9, c10, c11, c12, c13, c14, c15, c16, c17, c18⟩ := HX.out.at_.cells; rw [HSZ.out] at c0 c1 c2 c3 c4 c5 c6 c7 c8 c9 c10 c11 c12 c13 c14 c15 c16 c17 c18; rw [HWA.out] at c12) | ((with_reducible refine gate_builtin (b := .append) (xs := #[.tmp 52, .tmp 53]) rfl ?_); at_builtin; refine Kd.R_append_rows Kd.string (w0 := w) w.heap.size rfl (.tmp 52) (.tmp 53) 61 9 (.string ⟨#[]⟩) 16 rfl Tryd.underlying61 info9 rfl (by decide) (by omega) (.slice A6 7 k6) ([n, S1, (⟨#[62]⟩ : ByteArray), S2, S4 ++ (⟨#[47]⟩ : ByteArray) ++ S3] ++ [(⟨#[104, 105, 103, 104]⟩ : ByteArray), S5]) ([(⟨#[111, 117, 116]⟩ : ByteArray)]) _ _ _ (fun _ => True) (fun _ => False) rfl rfl ?aO ?aR (fun _ _ h => h) (fun _ h => h.elim) (fun _ _ => trivial) ?aB ?aS ?aL ?_; (case aO => exact Kd.R_alloc HR.out _); (case aR => exact (Kd.R_reads' (lit_R _ ([(⟨#[111, 117, 116]⟩ : ByteArray)]) 0 (Nat.zero_le _) (by simp))).2.2); (case aB => exact (HX.out.alloc _).below); (case aS => exact (HX.out.alloc _).below.size); (case aL => simp); intro v7 w7 ho hb hg hat; have n0_ := Aside0.mk ((HX.out.alloc _).grown HT0.out hb (Kd.R_alloc HR.out _) hg); have n1_ := Aside0.mk ho; clear HX HR ho hb hg hat c0 c1 c2 c3 c4 c5 c6 c7 c8 c9 c10 c11 c12 c13 c14 c15 c16 c17 c18; have HX := n0_; have HR := n1_; clear n0_ n1_; obtain ⟨A8, k8, e_⟩ := Kd.R_slice HR.out; have e7_ : v7 = .slice A8 8 k8 := e_; clear e_; subst e7_) | (go_at_call 34; (with_reducible refine (HALL.out _ _ _ (Kd.R_reads' HR.out).2.2 (Kd.R_reads' HR.out).2.1 ?h1 ?h2).mono ?_); (case h1 => simp); (case h2 => exact HSM.out); rintro e w6 ⟨rfl, hb⟩; have n0_ := Aside0.mk (HX.out.on hb); clear HX HR hb; have HX := n0_; clear n0_))
  go_ret
  exact ⟨rfl, HX.out.below⟩
end Go.Proofs.YtkcaifpmceoflaaDoor.Frm
namespace Go.Proofs.YtkcaifpmceoflaaDoor.Frm
open Go.RowKit Go.Proofs.YtkcaifpmceoflaaDoorW.PrintWords Go.Proofs.YtkcaifpmceoflaaDoorW.PrintLast Go.Proofs.YtkcaifpmceoflaaDoorW.PrintMore
set_option linter.unusedVariables false
theorem Tx.ver {w0 w : World} {f : Fr} {X : Nat} {n : ByteArray} {t : Bool} {a b : Int} (h : Tx w0 w f X n t a b) : w.cell? ⟨w0.heap.size, 14, none⟩ = some (.int .u16 f.vinc) ∧ w.cell? ⟨w0.heap.size, 15, none⟩ = some (.int .u32 f.vseq) := ⟨blk_cell h.at_ 14, blk_cell h.at_ 15⟩
theorem Tx.prt {w0 w : World} {f : Fr} {X : Nat} {n : ByteArray} {t : Bool} {a b : Int} (h : Tx w0 w f X n t a b) : w.cell? ⟨w0.heap.size, 13, none⟩ = some (.int .u8 f.blk) ∧ w.cell? ⟨w0.heap.size, 16, none⟩ = some (.int .u8 f.part) ∧ w.cell? ⟨w0.heap.size, 17, none⟩ = some (.int .u8 f.parts) := ⟨blk_cell h.at_ 13, blk_cell h.at_ 16, blk_cell h.at_ 17⟩
set_option maxHeartbeats 4000000 in
set_option maxRecDepth 100000 in
theorem text_data (w : World) (f : Fr) (hr : Rng f) (h4 : f.kind = 4) (n : ByteArray) (a b : Int) (o : Bool) (hn : n.size ≤ 100) (hs : Own.frame_shapes.f f.kind = some (n, false, a, b, o)) (ht : Own.Tabs w) :
    Calls Tryd.prog 12 #[.agg (FC f)] w fun e w' => e = .returned (.string (txt (head5 f n (⟨#[42]⟩ : ByteArray) ++ [(⟨#[98, 108, 111, 99, 107]⟩ : ByteArray), dgs f.blk, dgs f.vinc ++ (⟨#[46]⟩ : ByteArray) ++ dgs f.vseq, dgs (f.part + 1), (⟨#[111, 102]⟩ : ByteArray), dgs f.parts]))) ∧ Below w.heap.size w w' := by
  have HSH := Aside0.mk fun W : World => shapes_f f.kind W _ _ _ _ _ hs
  have r1 := dgs_size f.src (by have := hr.src; omega)
  have r3 := dgs_size f.hop (by have := hr.hop; omega)
  have r4 := etext_size f.ec f.ea f.ei (by have := hr.ec; omega) (by have := hr.ea; omega) (by have := hr.ei; omega)
  have HSRC := Aside0.mk fun W ht => itoa_g f.src hr.src.1 (by have := hr.src; omega) W ht
  have HHOP := Aside0.mk fun W ht => itoa_g f.hop hr.hop.1 (by have := hr.hop; omega) W ht
  have HEP := Aside0.mk fun W ht => etext_f W f.ec f.ea f.ei hr.ec hr.ea hr.ei ht
  have r5 := dgs_size f.vinc (by have := hr.vinc; omega)
  have r6 := dgs_size f.vseq (by have := hr.vseq; omega)
  have r7 := dgs_size f.blk (by have := hr.blk; omega)
  have r8 := dgs_size (f.part + 1) (by have := hr.part; omega)
  have r9 := dgs_size f.parts (by have := hr.parts; omega)
  have HVI := Aside0.mk fun W ht => itoa_g f.vinc hr.vinc.1 (by have := hr.vinc; omega) W ht
  have HVS := Aside0.mk fun W ht => fmt_g f.vseq hr.vseq.1 (by have := hr.vseq; omega) W ht
  have HBL := Aside0.mk fun W ht => itoa_g f.blk hr.blk.1 (by have := hr.blk; omega) W ht
  have HPA := Aside0.mk fun W ht => itoa_g (f.part + 1) (by have := hr.part; omega) (by have := hr.part; omega) W ht
  have HPS := Aside0.mk fun W ht => itoa_g f.parts hr.parts.1 (by have := hr.parts; omega) W ht
  have i5 : IntKind.i64.wrap f.vinc = f.vinc := IntWalk.i64_in f.vinc (by have := hr.vinc; omega)
  have i6 : IntKind.u64.wrap f.vseq = f.vseq := IntWalk.u64_in f.vseq (by have := hr.vseq; omega)
  have i7 : IntKind.i64.wrap f.blk = f.blk := IntWalk.i64_in f.blk (by have := hr.blk; omega)
  have i8 : IntKind.i64.wrap f.part = f.part := IntWalk.i64_in f.part (by have := hr.part; omega)
  have i9 : IntKind.i64.wrap (f.part + 1) = f.part + 1 := IntWalk.i64_in (f.part + 1) (by have := hr.part; omega)
  have i10 : IntKind.i64.wrap f.parts = f.parts := IntWalk.i64_in f.parts (by have := hr.parts; omega)
  have HALL := Aside0.mk (fun c0 d0 => txt_n c0 11 d0 (head5 f n (⟨#[42]⟩ : ByteArray) ++ [(⟨#[98, 108, 111, 99, 107]⟩ : ByteArray), dgs f.blk, dgs f.vinc ++ (⟨#[46]⟩ : ByteArray) ++ dgs f.vseq, dgs (f.part + 1), (⟨#[111, 102]⟩ : ByteArray), dgs f.parts]) rfl)
  unfold head5 at HALL
  unfold head5
  have i1 : IntKind.i64.wrap f.src = f.src := IntWalk.i64_in f.src (by have := hr.src; omega)
  have i3 : IntKind.i64.wrap f.hop = f.hop := IntWalk.i64_in f.hop (by have := hr.hop; omega)
  generalize dgs f.vinc = S5 at *
  generalize dgs f.vseq = S6 at *
  generalize dgs f.blk = S7 at *
  generalize dgs (f.part + 1) = S8 at *
  generalize dgs f.parts = S9 at *
  generalize dgs f.src = S1 at *
  generalize dgs f.hop = S3 at *
  generalize etext f.ec f.ea f.ei = S4 at *
  have HSM := Aside0.mk (show ∀ x ∈ [n, S1, (⟨#[62]⟩ : ByteArray), (⟨#[42]⟩ : ByteArray), S4 ++ (⟨#[47]⟩ : ByteArray) ++ S3] ++ [(⟨#[98, 108, 111, 99, 107]⟩ : ByteArray), S7, S5 ++ (⟨#[46]⟩ : ByteArray) ++ S6, S8, (⟨#[111, 102]⟩ : ByteArray), S9], x.size ≤ 100 from by
    intro x hx
    simp only [List.cons_append, List.nil_append, List.mem_cons, List.not_mem_nil, or_false] at hx
    rcases hx with rfl | rfl | rfl | rfl | rfl | rfl | rfl | rfl | rfl | rfl | rfl
    · exact hn
    · omega
    · decide
    · decide
    · simp only [ByteArray.size_append]
      show _ + 1 + _ ≤ 100
      omega
    · decide
    · omega
    · simp only [ByteArray.size_append]
      show _ + 1 + _ ≤ 100
      omega
    · omega
    · decide
    · omega)
  have s3 : (9223372036854775807 < S5.size + 1) = False := eq_false (by omega)
  have s4 : (9223372036854775807 < S5.size + 1 + S6.size) = False := eq_false (by omega)
  have s1 : (9223372036854775807 < S4.size + 1) = False := eq_false (by omega)
  have s2 : (9223372036854775807 < S4.size + 1 + S3.size) = False := eq_false (by omega)
  have k3 : (f.kind == 3) = false := by rw [h4]; rfl
  have k4 : (f.kind == 4) = true := by rw [h4]; rfl
  have HT := Aside0.mk (Own.tabs_alloc ht (.cells (FC f) 29))
  have HN := Aside0.mk (FAt.new w f)
  have HB := Aside0.mk ((Below.refl w.heap.size w).alloc (Nat.le_refl _) (.cells (FC f) 29))
  have HT0 := Aside0.mk ht
  clear hs ht hr hn h4
  go_enter Tryd.func12, Tryd.ntmps12
  go_upto_region 1 with (fail)
  generalize w.alloc (.cells (FC f) 29) = W0 at *
  obtain ⟨c0, c1, c2, c3, c4, c5, c6, c7, c8, c9, c10, c11, c12, c13, c14, c15, c16, c17, c18⟩ := HN.out.cells
  go_upto_region 2 with (go_at_call 29; (with_reducible refine (HSH.out _).mono ?_); rintro e w1 ⟨rfl, hb⟩; obtain ⟨W1, hW1, hx⟩ := Tx.new HN.out HT.out HB.out hb n false a b; have HX := Aside0.mk hx; clear HN HB HT hb hx c0 c1 c2 c3 c4 c5 c6 c7 c8 c9 c10 c11 c12 c13 c14 c15 c16 c17 c18)
  clear hW1
  generalize w1.heap.size = X at *
  obtain ⟨c0, c1, c2, c3, c4, c5, c6, c7, c8, c9, c10, c11, c12, c13, c14, c15, c16, c17, c18⟩ := HX.out.at_.cells
  have x1 : W1.cell? ⟨X, 1, none⟩ = some (.bool false) := blk_cell HX.out.sh 1
  go_upto_region 5 with (fail)
  have n0_ := Aside0.mk HX.out.drew
  clear HX
  have HX := n0_
  clear n0_
  generalize hEq : w.heap.size = E at *
  have HSZ := Aside0.mk hEq
  clear hEq
  go_region_held_law (fun w' => w'.cell? ⟨E, 1, none⟩ = some (.int .u8 f.src) ∧ w'.cell? ⟨E, 5, none⟩ = some (.int .u16 f.ec) ∧ w'.cell? ⟨E, 6, none⟩ = some (.int .u8 f.ea) ∧ w'.cell? ⟨E, 7, none⟩ = some (.int .u16 f.ei) ∧ w'.cell? ⟨E, 8, none⟩ = some (.int .u16 f.hop) ∧ w'.cell? ⟨X, 0, none⟩ = some (.string n)) ((rw [← HSZ.out]; first | exact HX.out.five | exact (HX.out.alloc _).five)) (first | (go_at_call 31; (with_reducible refine (HSRC.out _ HX.out.tab).mono ?_); rintro e w3 ⟨rfl, hb⟩; have n0_ := Aside0.mk (HX.out.on hb); clear HX hb; have HX := n0_; clear n0_) | (go_at_call 31; (with_reducible refine (HHOP.out _ HX.out.tab).mono ?_); rintro e w3 ⟨rfl, hb⟩; have n0_ := Aside0.mk (HX.out.on hb); clear HX hb; have HX := n0_; clear n0_) | (go_at_call 32; (with_reducible refine (HEP.out _ HX.out.tab).mono ?_); rintro e w3 ⟨rfl, hb⟩; have n0_ := Aside0.mk (HX.out.on hb); clear HX hb; have HX := n0_; clear n0_))
  have hX := HX.out.alloc (.cells #[.string n, .string S1, .string (⟨#[62]⟩ : ByteArray), .string (⟨#[42]⟩ : ByteArray), .string (S4 ++ (⟨#[47]⟩ : ByteArray) ++ S3)] 9)
  have hR := lit_R w3 [n, S1, (⟨#[62]⟩ : ByteArray), (⟨#[42]⟩ : ByteArray), S4 ++ (⟨#[47]⟩ : ByteArray) ++ S3] w.heap.size (by have := HX.out.below.size; exact this) (by simp)
  have hR2 : Kd.R Kd.string 9 (w3.alloc (.cells #[.string n, .string S1, .string (⟨#[62]⟩ : ByteArray), .string (⟨#[42]⟩ : ByteArray), .string (S4 ++ (⟨#[47]⟩ : ByteArray) ++ S3)] 9)) w.heap.size (fun _ => True) (.slice (some ⟨w3.heap.size, 0, none⟩) 5 5) [n, S1, (⟨#[62]⟩ : ByteArray), (⟨#[42]⟩ : ByteArray), S4 ++ (⟨#[47]⟩ : ByteArray) ++ S3] := hR
  clear hR HX
  generalize w3.alloc (.cells #[.string n, .string S1, .string (⟨#[62]⟩ : ByteArray), .string (⟨#[42]⟩ : ByteArray), .string (S4 ++ (⟨#[47]⟩ : ByteArray) ++ S3)] 9) = W6 at *
  generalize w3.heap.size = G at *
  have HX := Aside0.mk hX
  clear hX
  have HR := Aside0.mk hR2
  clear hR2
  have c0 : W6.cell? ⟨E, 0, none⟩ = some (.int .i64 f.kind) := by rw [← HSZ.out]; exact HX.out.at_.cells.1
  go_upto_region 13 with (fail)
  have n0_ := Aside0.mk HX.out.drew
  have n1_ := Aside0.mk (Kd.R_drew HR.out)
  clear HX HR
  have HX := n0_
  have HR := n1_
  clear n0_ n1_
  clear c0
  go_region_held_law (fun w' => w'.cell? ⟨E, 14, none⟩ = some (.int .u16 f.vinc) ∧ w'.cell? ⟨E, 15, none⟩ = some (.int .u32 f.vseq)) ((rw [← HSZ.out]; exact HX.out.ver)) (first | (go_at_call 31; (with_reducible refine (HVI.out _ HX.out.tab).mono ?_); rintro e w3 ⟨rfl, hb⟩; have n0_ := Aside0.mk (HX.out.on hb); have n1_ := Aside0.mk (Kd.R_below HR.out hb); clear HX HR hb; have HX := n0_; have HR := n1_; clear n0_ n1_) | (go_at_call 33; (with_reducible refine (HVS.out _ HX.out.tab).mono ?_); rintro e w3 ⟨rfl, hb⟩; have n0_ := Aside0.mk (HX.out.on hb); have n1_ := Aside0.mk (Kd.R_below HR.out hb); clear HX HR hb; have HX := n0_; have HR := n1_; clear n0_ n1_))
  go_upto_region 14 with (fail)
  have n0_ := Aside0.mk HX.out.drew
  have n1_ := Aside0.mk (Kd.R_drew HR.out)
  clear HX HR
  have HX := n0_
  have HR := n1_
  clear n0_ n1_
  go_region_held_law (fun w' => w'.cell? ⟨E, 13, none⟩ = some (.int .u8 f.blk) ∧ w'.cell? ⟨E, 16, none⟩ = some (.int .u8 f.part) ∧ w'.cell? ⟨E, 17, none⟩ = some (.int .u8 f.parts)) ((rw [← HSZ.out]; first | exact HX.out.prt | exact (HX.out.alloc _).prt)) (first | (go_at_call 31; (with_reducible refine (HBL.out _ HX.out.tab).mono ?_); rintro e w3 ⟨rfl, hb⟩; have n0_ := Aside0.mk (HX.out.on hb); have n1_ := Aside0.mk (Kd.R_below HR.out hb); clear HX HR hb; have HX := n0_; have HR := n1_; clear n0_ n1_) | (go_at_call 31; (with_reducible refine (HPA.out _ HX.out.tab).mono ?_); rintro e w3 ⟨rfl, hb⟩; have n0_ := Aside0.mk (HX.out.on hb); have n1_ := Aside0.mk (Kd.R_below HR.out hb); clear HX HR hb; have HX := n0_; have HR := n1_; clear n0_ n1_) | (go_at_call 31; (with_reducible refine (HPS.out _ HX.out.tab).mono ?_); rintro e w3 ⟨rfl, hb⟩; have n0_ := Aside0.mk (HX.out.on hb); have n1_ := Aside0.mk (Kd.R_below HR.out hb); clear HX HR hb; have HX := n0_; have HR := n1_; clear n0_ n1_) | (refine Kd.R_append_rows_step Kd.string (w0 := w) w.heap.size (by rfl) (.tmp 69) (.tmp 84) 61 9 (.string ⟨#[]⟩) 16 rfl Tryd.underlying61 info9 rfl (by decide) (by omega) (.slice (some ⟨G, 0, none⟩) 5 5) ([n, S1, (⟨#[62]⟩ : ByteArray), (⟨#[42]⟩ : ByteArray), S4 ++ (⟨#[47]⟩ : ByteArray) ++ S3]) ([(⟨#[98, 108, 111, 99, 107]⟩ : ByteArray), S7, S5 ++ (⟨#[46]⟩ : ByteArray) ++ S6, S8, (⟨#[111, 102]⟩ : ByteArray), S9]) _ _ _ (fun _ => True) (fun _ => False) rfl rfl ?aO ?aR (fun _ _ h => h) (fun _ h => h.elim) (fun _ _ => trivial) ?aB ?aS ?aL ?_; (case aO => exact Kd.R_alloc HR.out _); (case aR => exact (Kd.R_reads' (lit_R _ ([(⟨#[98, 108, 111, 99, 107]⟩ : ByteArray), S7, S5 ++ (⟨#[46]⟩ : ByteArray) ++ S6, S8, (⟨#[111, 102]⟩ : ByteArray), S9]) 0 (Nat.zero_le _) (by simp))).2.2); (case aB => exact (HX.out.alloc _).below); (case aS => exact (HX.out.alloc _).below.size); (case aL => simp); intro v5 w5 ho hb hg hat; have n0_ := Aside0.mk ((HX.out.alloc _).grown HT0.out hb (Kd.R_alloc HR.out _) hg); have n1_ := Aside0.mk ho; clear HX HR ho hb hg hat; have HX := n0_; have HR := n1_; clear n0_ n1_; obtain ⟨A6, k6, e_⟩ := Kd.R_slice HR.out; have e7_ : v5 = .slice A6 11 k6 := e_; clear e_; subst e7_))
  go_wp2_with (go_at_call 34; (with_reducible refine (HALL.out _ _ _ (Kd.R_reads' HR.out).2.2 (Kd.R_reads' HR.out).2.1 ?h1 ?h2).mono ?_); (case h1 => simp); (case h2 => exact HSM.out); rintro e w6 ⟨rfl, hb⟩; have n0_ := Aside0.mk (HX.out.on hb); clear HX HR hb; have HX := n0_; clear n0_)
  go_ret
  exact ⟨rfl, HX.out.below⟩
end Go.Proofs.YtkcaifpmceoflaaDoor.Frm

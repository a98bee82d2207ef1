/- The walk of the document's frame. Conditions: those that each statement names. -/
import Derived.Test.YtkcaifpmceoflaaDoorRRight
import Derived.BigRegion
import Derived.Deep.RegionHeldLaw
import Derived.Deep.DeepCutAuto
namespace Go.Proofs.YtkcaifpmceoflaaDoor.Frm
open Go.RowKit Go.Proofs.YtkcaifpmceoflaaDoorW.PrintWords Go.Proofs.YtkcaifpmceoflaaDoorW.PrintLast Go.Proofs.YtkcaifpmceoflaaDoorW.PrintMore
set_option linter.unusedVariables false
set_option linter.unusedSimpArgs false
/-- A store of a whole frame: so that a walk does not open it cell by cell. -/
def st29 (v x : Value) : Sem Next := do Instr.storeAt 29 v x; pure .skip
/-- An operation that a region takes out of its list: first written out, then run. -/
def wpx (P : Program) (o : Oper) (a : Act) (w : World) (K : Act → World → Prop) (Q : Exit → Act → World → Prop) : Prop := Oper.wp P o a w K Q
theorem wpx_in (P : Program) (l : List Oper) (i : Nat) (h : i < l.toArray.size) (a : Act) (w : World) (K : Act → World → Prop) (Q : Exit → Act → World → Prop) : Oper.wp P (l.toArray[i]'h) a w K Q = wpx P (l.toArray[i]'h) a w K Q := rfl
theorem wpx_st (P : Program) (a : Act) (w : World) (dst : Option Tmp) (p x : Operand) (ty : TypeId) (pos : String) (after : Array Edge) (guard : Option (Nat × Bool)) (K : Act → World → Prop) (Q : Exit → Act → World → Prop) :
    wpx P { dst, op := .store 29 p x, type := ty, pos, after, guard } a w K Q = Oper.upon P { dst, op := .store 29 p x, type := ty, pos, after, guard } a K Q ((st29 (a.eval p) (a.eval x)).run P w) := rfl
theorem wpx_out (P : Program) (a : Act) (w : World) (dst : Option Tmp) (op : Op) (ty : TypeId) (pos : String) (after : Array Edge) (guard : Option (Nat × Bool)) (K : Act → World → Prop) (Q : Exit → Act → World → Prop) :
    wpx P { dst, op, type := ty, pos, after, guard } a w K Q = Oper.wp P { dst, op, type := ty, pos, after, guard } a w K Q := rfl
theorem row_store (w : World) (E : Nat) (cells old : Array Value) (h : w.heap[E]? = some (.cells old 29 (0, 0))) (ho : old.size = cells.size) (hc : cells.size = 19) (h1 : cells.all (·.oneCell') = true) : (st29 (.pointer (some ⟨E, 0, none⟩)) (.agg cells)).run Tryd.prog w = .ok .skip (w.setRow E cells) := by
  unfold st29
  have hi : (Tryd.prog.info? 29).map (·.size) = some cells.size := by rw [hc]; kernel_rfl
  have h2 := run_storeVar_row (P := Tryd.prog) w E 29 29 old cells h hi ho h1
  simp only [Instr.storeAt, Instr.sureAddr, Sem.run_bind, Sem.run_pure, Result.andThen_ok, h2]
theorem rnum (w : World) (s : ByteArray) (p m : Nat) (pi mi : Int) (hp : p + m ≤ s.size) (hs : s.size ≤ 1000000) (h4 : m ≤ 4) (h5 : pi = (p : Int)) (h6 : mi = (m : Int)) :
    Calls Tryd.prog 56 #[.string s, .int .i64 pi, .int .i64 mi] w fun e w' => e = .returned (.int .u32 (nat s p m)) ∧ Below w.heap.size w w' := by
  subst h5 h6
  exact ref_num w s p m hp hs h4
theorem idxi (s : ByteArray) (i : Nat) (ii : Int) (h : i < s.size) (h5 : ii = (i : Int)) (W : World) : (Instr.index 9 (.string s) (.int .i64 ii)).run Tryd.prog W = .ok (.int .u8 (nat s i 1)) W := by
  subst h5
  exact idx s i h W
theorem T2.on {w0 w w' : World} {E G : Nat} {f g : Fr} (h : T2 w0 w E G f g) (hb : Below w.heap.size w w') : T2 w0 w' E G f g :=
  ⟨h.fr.on hb h.fr.lt, h.fg.on hb h.fg.lt, h.ne, h.lo, h.below.trans (hb.mono h.below.size)⟩
theorem T2.drew {w0 w : World} {E G : Nat} {f g : Fr} (h : T2 w0 w E G f g) : T2 w0 w.drew E G f g := h.on ⟨rfl, rfl, rfl, Nat.le_refl _, fun _ _ => rfl⟩
theorem Dc.drew {w0 w : World} {R : Nat} (h : Dc w0 w R) : Dc w0 w.drew R := h.on ⟨rfl, rfl, rfl, Nat.le_refl _, fun _ _ => rfl⟩
/-- A further cell block, new behind W. -/
theorem Dc.room {w0 W w' : World} {R : Nat} (h : Dc w0 W R) (hb : Below (W.alloc (.cells #[.int .i64 0, .int .u8 0, .int .u8 0, .int .u16 0, .int .u16 0, .int .u16 0, .int .u8 0, .int .u16 0, .int .u16 0, .int .u16 0, .int .u8 0, .int .u16 0, .bool false, .int .u8 0, .int .u16 0, .int .u32 0, .int .u8 0, .int .u8 0, .string ⟨#[]⟩] 29)).heap.size (W.alloc (.cells #[.int .i64 0, .int .u8 0, .int .u8 0, .int .u16 0, .int .u16 0, .int .u16 0, .int .u8 0, .int .u16 0, .int .u16 0, .int .u16 0, .int .u8 0, .int .u16 0, .bool false, .int .u8 0, .int .u16 0, .int .u32 0, .int .u8 0, .int .u8 0, .string ⟨#[]⟩] 29)) w') : T2 w0 w' R W.heap.size fz fz := by
  have ha : Below W.heap.size W (W.alloc (.cells #[.int .i64 0, .int .u8 0, .int .u8 0, .int .u16 0, .int .u16 0, .int .u16 0, .int .u8 0, .int .u16 0, .int .u16 0, .int .u16 0, .int .u8 0, .int .u16 0, .bool false, .int .u8 0, .int .u16 0, .int .u32 0, .int .u8 0, .int .u8 0, .string ⟨#[]⟩] 29)) := (Below.refl _ _).alloc (Nat.le_refl _) _
  have h2 := h.on ha
  have h3 : FAt (W.alloc (.cells #[.int .i64 0, .int .u8 0, .int .u8 0, .int .u16 0, .int .u16 0, .int .u16 0, .int .u8 0, .int .u16 0, .int .u16 0, .int .u16 0, .int .u8 0, .int .u16 0, .bool false, .int .u8 0, .int .u16 0, .int .u32 0, .int .u8 0, .int .u8 0, .string ⟨#[]⟩] 29)) W.heap.size fz := FAt.new W fz
  exact ⟨h2.res.on hb h2.res.lt, h3.on hb h3.lt, Nat.ne_of_lt h.res.lt, h.below.size, h2.below.trans (hb.mono h2.below.size)⟩
theorem Dc.room0 {w0 W : World} {R : Nat} (h : Dc w0 W R) : T2 w0 (W.alloc (.cells #[.int .i64 0, .int .u8 0, .int .u8 0, .int .u16 0, .int .u16 0, .int .u16 0, .int .u8 0, .int .u16 0, .int .u16 0, .int .u16 0, .int .u8 0, .int .u16 0, .bool false, .int .u8 0, .int .u16 0, .int .u32 0, .int .u8 0, .int .u8 0, .string ⟨#[]⟩] 29)) R W.heap.size fz fz := h.room (Below.refl _ _)
theorem drew_room (W : World) (o : Obj) : W.drew.alloc o = (W.alloc o).drew := rfl
theorem Dc.roomd {w0 W w' : World} {R : Nat} (h : Dc w0 W.drew R) (hb : Below ((W.alloc (.cells #[.int .i64 0, .int .u8 0, .int .u8 0, .int .u16 0, .int .u16 0, .int .u16 0, .int .u8 0, .int .u16 0, .int .u16 0, .int .u16 0, .int .u8 0, .int .u16 0, .bool false, .int .u8 0, .int .u16 0, .int .u32 0, .int .u8 0, .int .u8 0, .string ⟨#[]⟩] 29)).drew).heap.size ((W.alloc (.cells #[.int .i64 0, .int .u8 0, .int .u8 0, .int .u16 0, .int .u16 0, .int .u16 0, .int .u8 0, .int .u16 0, .int .u16 0, .int .u16 0, .int .u8 0, .int .u16 0, .bool false, .int .u8 0, .int .u16 0, .int .u32 0, .int .u8 0, .int .u8 0, .string ⟨#[]⟩] 29)).drew) w') : T2 w0 w' R W.heap.size fz fz := h.room hb
theorem T2.row {w0 w : World} {R X : Nat} {g : Fr} (h : T2 w0 w R X fz g) (g' : Fr) : T2 w0 (w.setRow X (FC g')) R X fz g' :=
  ⟨(setRow_other _ _ _ _ h.ne).trans h.fr, setRow_heap _ _ _ _ _ _ h.fg, h.ne, h.lo, h.below.trans ⟨rfl, rfl, rfl, by rw [setRow_size]; exact Nat.le_refl _, fun k hk => setRow_other _ _ _ _ (by have := h.lo; omega)⟩⟩
def fE (s : ByteArray) : Fr := { fz with kind := nat s 0 1, src := nat s 2 1, sinc := nat s 3 2, dst := nat s 5 1, dinc := nat s 6 2, hop := nat s 13 2 }
def fF (s : ByteArray) : Fr := { fE s with ec := nat s 8 2, ea := nat s 10 1, ei := nat s 11 2 }
def fH (s : ByteArray) : Fr := { fF s with hc := nat s 15 2, ha := nat s 17 1, hi := nat s 18 2, wants := nat s 20 1 == 1 }
def fG (s : ByteArray) : Fr := { fF s with blk := nat s 15 1, vinc := nat s 16 2, vseq := nat s 18 4, part := nat s 22 1, parts := nat s 23 1, bytes := s.extract 24 (s.size - 2) }
theorem rframe_end {w : World} {R : Nat} {f : Fr} (h : FAt w R fz) (tmps : Array Value) (h2 : tmps.getD 2 undef = .pointer (some ⟨R, 0, none⟩)) :
    (results Tryd.f41 tmps).run Tryd.prog (w.setRow R (FC f)) = .ok (.agg (FC f)) (w.setRow R (FC f)) := by
  have h2' : tmps[2]?.getD undef = .pointer (some ⟨R, 0, none⟩) := by simpa using h2
  have hl := run_loadVar_row (P := Tryd.prog) (w.setRow R (FC f)) R 29 29 (FC f) (0, 0) _ (setRow_heap _ _ _ _ _ _ h) Tryd.underlying29 rfl (by kernel_rfl)
  simp [results, Tryd.results41, h2', asAddr, hl]
theorem T2.last {w0 w : World} {R X : Nat} {f g : Fr} (h : T2 w0 w R X f g) (hR : w0.heap.size ≤ R) (cs : Array Value) : Below w0.heap.size w0 (w.setRow R cs) :=
  h.below.trans ⟨rfl, rfl, rfl, by rw [setRow_size]; exact Nat.le_refl _, fun k hk => setRow_other _ _ _ _ (by omega)⟩
section
attribute [local go_sem ↓ high] wpx_in
attribute [local go_sem high] wpx_st
attribute [local go_sem low] wpx_out
set_option maxHeartbeats 4000000 in
set_option maxRecDepth 100000 in
theorem rframe_x (w : World) (s : ByteArray) (hs : 17 ≤ s.size ∧ s.size ≤ 1000) (h3 : nat s 0 1 = 3 → s.size = 23) (h4 : nat s 0 1 = 4 → 27 ≤ s.size) :
    Calls Tryd.prog 41 #[.string s] w fun e w' => e = .returned (.agg (FC (if nat s 0 1 = 3 then fH s else if nat s 0 1 = 4 then fG s else fF s))) ∧ Below w.heap.size w w' := by
  obtain ⟨W0, hW0, hN, hB⟩ := rd_new w
  have HD := Aside0.mk (Dc.start hN hB).drew
  clear hN hB
  have x0 := idxi s 0 0 (by omega) rfl
  have x2 := idxi s 2 2 (by omega) rfl
  have x5 := idxi s 5 5 (by omega) rfl
  have x10 := idxi s 10 10 (by omega) rfl
  have H34 := Aside0.mk (And.intro h3 h4)
  have HS := Aside0.mk hs
  clear h3 h4
  have HC3 := Aside0.mk fun W : World => rnum W s 3 2 3 2 (by omega) (by omega) (by omega) rfl rfl
  have HC6 := Aside0.mk fun W : World => rnum W s 6 2 6 2 (by omega) (by omega) (by omega) rfl rfl
  have HC13 := Aside0.mk fun W : World => rnum W s 13 2 13 2 (by omega) (by omega) (by omega) rfl rfl
  have HC8 := Aside0.mk fun W : World => rnum W s 8 2 8 2 (by omega) (by omega) (by omega) rfl rfl
  have HC11 := Aside0.mk fun W : World => rnum W s 11 2 11 2 (by omega) (by omega) (by omega) rfl rfl
  have r1 := (nat_rng s 0 1).1
  have r2 : nat s 0 1 < 256 := (nat_rng s 0 1).2
  have i0 : IntKind.i64.wrap (nat s 0 1) = nat s 0 1 := IntWalk.i64_in _ (by omega)
  have y3 := (nat_rng s 3 2).1
  have z3 : nat s 3 2 < 65536 := (nat_rng s 3 2).2
  have u3 : IntKind.u16.wrap (nat s 3 2) = nat s 3 2 := by rw [IntKind.wrap_u16]; omega
  have y6 := (nat_rng s 6 2).1
  have z6 : nat s 6 2 < 65536 := (nat_rng s 6 2).2
  have u6 : IntKind.u16.wrap (nat s 6 2) = nat s 6 2 := by rw [IntKind.wrap_u16]; omega
  have y13 := (nat_rng s 13 2).1
  have z13 : nat s 13 2 < 65536 := (nat_rng s 13 2).2
  have u13 : IntKind.u16.wrap (nat s 13 2) = nat s 13 2 := by rw [IntKind.wrap_u16]; omega
  have y8 := (nat_rng s 8 2).1
  have z8 : nat s 8 2 < 65536 := (nat_rng s 8 2).2
  have u8 : IntKind.u16.wrap (nat s 8 2) = nat s 8 2 := by rw [IntKind.wrap_u16]; omega
  have y11 := (nat_rng s 11 2).1
  have z11 : nat s 11 2 < 65536 := (nat_rng s 11 2).2
  have u11 : IntKind.u16.wrap (nat s 11 2) = nat s 11 2 := by rw [IntKind.wrap_u16]; omega
  clear hs
  go_enter Tryd.func41, Tryd.ntmps41
  go_upto_region 1 with (fail)
  try rw [hW0]
  clear hW0
  generalize hEq : w.heap.size = R at *
  have HSZ := Aside0.mk hEq
  clear hEq
  go_cut [3] (fun v3 wx => ∃ X : Nat, v3 = .pointer (some ⟨X, 0, none⟩) ∧ Aside0 (T2 w wx R X fz (fE s)))
  case first =>
    refine wp_region_held_drew (S := fun _ => True) (by kernel_rfl) trivial (fun hHeld => ?_)
    clear hHeld
    refine wpAnyH_take (i := 0) (oi := _) (v := ?vv1) rfl (by kernel_rfl) (by kernel_rfl) (by kernel_rfl) (fun _ _ _ h => h) (Or.inl ⟨by rfl, ?hy1⟩) trivial ?go1
    case hy1 =>
      intro w_ hSw
      clear hSw
      go_simp
      try with_reducible rfl
    simp only [Act.put, List.setIfInBounds_toArray, List.set_cons_zero, List.set_cons_succ]
    refine wpAnyH_take (i := 3) (oi := _) (v := ?vv2) rfl (by kernel_rfl) (by kernel_rfl) (by kernel_rfl) (fun _ _ _ h => h) (Or.inl ⟨by rfl, ?hy2⟩) trivial ?go2
    case hy2 =>
      intro w_ hSw
      clear hSw
      go_simp
      try with_reducible rfl
    simp only [Act.put, List.setIfInBounds_toArray, List.set_cons_zero, List.set_cons_succ]
    refine wpAnyH_take (i := 5) (oi := _) (v := ?vv3) rfl (by kernel_rfl) (by kernel_rfl) (by kernel_rfl) (fun _ _ _ h => h) (Or.inl ⟨by rfl, ?hy3⟩) trivial ?go3
    case hy3 =>
      intro w_ hSw
      clear hSw
      go_simp
      try with_reducible rfl
    simp only [Act.put, List.setIfInBounds_toArray, List.set_cons_zero, List.set_cons_succ]
    refine wpAnyH_take (i := 8) (oi := _) (v := ?vv4) rfl (by kernel_rfl) (by kernel_rfl) (by kernel_rfl) (fun _ _ _ h => h) (Or.inl ⟨by rfl, ?hy4⟩) trivial ?go4
    case hy4 =>
      intro w_ hSw
      clear hSw
      go_simp
      try with_reducible rfl
    simp only [Act.put, List.setIfInBounds_toArray, List.set_cons_zero, List.set_cons_succ]
    refine wpAnyH_take (i := 10) (oi := _) (v := ?vv5) rfl (by kernel_rfl) (by kernel_rfl) (by kernel_rfl) (fun _ _ _ h => h) (Or.inl ⟨by rfl, ?hy5⟩) trivial ?go5
    case hy5 =>
      intro w_ hSw
      clear hSw
      go_simp
      try with_reducible rfl
    simp only [Act.put, List.setIfInBounds_toArray, List.set_cons_zero, List.set_cons_succ]
    refine wpAnyH_take (i := 13) (oi := _) (v := ?vv6) rfl (by kernel_rfl) (by kernel_rfl) (by kernel_rfl) (fun _ _ _ h => h) (Or.inl ⟨by rfl, ?hy6⟩) trivial ?go6
    case hy6 =>
      intro w_ hSw
      clear hSw
      go_simp
      try with_reducible rfl
    simp only [Act.put, List.setIfInBounds_toArray, List.set_cons_zero, List.set_cons_succ]
    refine wpAnyH_take (i := 1) (oi := _) (v := ?vv7) rfl (by kernel_rfl) (by kernel_rfl) (by kernel_rfl) (fun _ _ _ h => h) (Or.inl ⟨by rfl, ?hy7⟩) trivial ?go7
    case hy7 =>
      intro w_ hSw
      clear hSw
      go_simp
      try with_reducible rfl
    simp only [Act.put, List.setIfInBounds_toArray, List.set_cons_zero, List.set_cons_succ]
    refine wpAnyH_take (i := 4) (oi := _) (v := ?vv8) rfl (by kernel_rfl) (by kernel_rfl) (by kernel_rfl) (fun _ _ _ h => h) (Or.inl ⟨by rfl, ?hy8⟩) trivial ?go8
    case hy8 =>
      intro w_ hSw
      clear hSw
      go_simp
      try with_reducible rfl
    simp only [Act.put, List.setIfInBounds_toArray, List.set_cons_zero, List.set_cons_succ]
    refine wpAnyH_take (i := 9) (oi := _) (v := ?vv9) rfl (by kernel_rfl) (by kernel_rfl) (by kernel_rfl) (fun _ _ _ h => h) (Or.inl ⟨by rfl, ?hy9⟩) trivial ?go9
    case hy9 =>
      intro w_ hSw
      clear hSw
      go_simp
      try with_reducible rfl
    simp only [Act.put, List.setIfInBounds_toArray, List.set_cons_zero, List.set_cons_succ]
    refine wpAnyH_take (i := 2) (oi := _) (v := ?vv10) rfl (by kernel_rfl) (by kernel_rfl) (by kernel_rfl) (fun _ _ _ h => h) (Or.inl ⟨by rfl, ?hy10⟩) trivial ?go10
    case hy10 =>
      intro w_ hSw
      clear hSw
      go_simp
      try with_reducible rfl
    simp only [Act.put, List.setIfInBounds_toArray, List.set_cons_zero, List.set_cons_succ]
    refine wpAnyH_ready (rs := [6, 17]) (by kernel_rfl) (by simp) ?_
    refine AllReadyH.cons rfl (fun K hK => ?_) ?_
    · go_simp
      go_wp2_with (go_at_call 56; (with_reducible refine (HC3.out _).mono ?_); rintro e wa ⟨rfl, hb⟩; have n0_ := Aside0.mk (HD.out.on (by with_reducible exact hb)); clear HD hb; have HD := n0_; clear n0_)
      refine hK.out _ _ trivial (fun hHeld => ?_)
      clear hK K hHeld
      refine wpAnyH_take (i := 7) (oi := _) (v := ?vv11) rfl (by kernel_rfl) (by kernel_rfl) (by kernel_rfl) (fun _ _ _ h => h) (Or.inl ⟨by rfl, ?hy11⟩) trivial ?go11
      case hy11 =>
        intro w_ hSw
        clear hSw
        go_simp
        try with_reducible rfl
      simp only [Act.put, List.setIfInBounds_toArray, List.set_cons_zero, List.set_cons_succ]
      refine wpAnyH_ready (rs := [11, 17]) (by kernel_rfl) (by simp) ?_
      refine AllReadyH.cons rfl (fun K hK => ?_) ?_
      · go_simp
        go_wp2_with (go_at_call 56; (with_reducible refine (HC6.out _).mono ?_); rintro e wb ⟨rfl, hb⟩; have n0_ := Aside0.mk (HD.out.on (by with_reducible exact hb)); clear HD hb; have HD := n0_; clear n0_)
        refine hK.out _ _ trivial (fun hHeld => ?_)
        clear hK K hHeld
        refine wpAnyH_take (i := 12) (oi := _) (v := ?vv12) rfl (by kernel_rfl) (by kernel_rfl) (by kernel_rfl) (fun _ _ _ h => h) (Or.inl ⟨by rfl, ?hy12⟩) trivial ?go12
        case hy12 =>
          intro w_ hSw
          clear hSw
          go_simp
          try with_reducible rfl
        simp only [Act.put, List.setIfInBounds_toArray, List.set_cons_zero, List.set_cons_succ]
        refine wpAnyH_ready (rs := [14, 17]) (by kernel_rfl) (by simp) ?_
        refine AllReadyH.cons rfl (fun K hK => ?_) ?_
        · go_simp
          go_wp2_with (go_at_call 56; (with_reducible refine (HC13.out _).mono ?_); rintro e wc ⟨rfl, hb⟩; have n0_ := Aside0.mk (HD.out.on (by with_reducible exact hb)); clear HD hb; have HD := n0_; clear n0_)
          refine hK.out _ _ trivial (fun hHeld => ?_)
          clear hK K hHeld
          refine wpAnyH_take (i := 15) (oi := _) (v := ?vv13) rfl (by kernel_rfl) (by kernel_rfl) (by kernel_rfl) (fun _ _ _ h => h) (Or.inl ⟨by rfl, ?hy13⟩) trivial ?go13
          case hy13 =>
            intro w_ hSw
            clear hSw
            go_simp
            try with_reducible rfl
          simp only [Act.put, List.setIfInBounds_toArray, List.set_cons_zero, List.set_cons_succ]
          refine wpAnyH_take (i := 16) (oi := _) (v := ?vv14) rfl (by kernel_rfl) (by kernel_rfl) (by kernel_rfl) (fun _ _ _ h => h) (Or.inl ⟨by rfl, ?hy14⟩) trivial ?go14
          case hy14 =>
            intro w_ hSw
            clear hSw
            go_simp
            try with_reducible rfl
          simp only [Act.put, List.setIfInBounds_toArray, List.set_cons_zero, List.set_cons_succ]
          refine wpAnyH_ready (rs := [17]) (by kernel_rfl) (by simp) ?_
          refine AllReadyH.cons rfl (fun K hK => ?_) ?_
          · go_simp
            refine hK.out _ _ trivial (fun hHeld => ?_)
            clear hK K hHeld
            have HT0 := Aside0.mk HD.out.room0
            have hst0 : (st29 (.pointer (some ⟨wc.heap.size, 0, none⟩)) (.agg #[.int .i64 (nat s 0 1), .int .u8 (nat s 2 1), .int .u8 (nat s 5 1), .int .u16 (nat s 3 2), .int .u16 (nat s 6 2), .int .u16 0, .int .u8 0, .int .u16 0, .int .u16 (nat s 13 2), .int .u16 0, .int .u8 0, .int .u16 0, .bool false, .int .u8 0, .int .u16 0, .int .u32 0, .int .u8 0, .int .u8 0, .string ⟨#[]⟩])).run Tryd.prog (wc.alloc (.cells #[.int .i64 0, .int .u8 0, .int .u8 0, .int .u16 0, .int .u16 0, .int .u16 0, .int .u8 0, .int .u16 0, .int .u16 0, .int .u16 0, .int .u8 0, .int .u16 0, .bool false, .int .u8 0, .int .u16 0, .int .u32 0, .int .u8 0, .int .u8 0, .string ⟨#[]⟩] 29)) = .ok .skip ((wc.alloc (.cells #[.int .i64 0, .int .u8 0, .int .u8 0, .int .u16 0, .int .u16 0, .int .u16 0, .int .u8 0, .int .u16 0, .int .u16 0, .int .u16 0, .int .u8 0, .int .u16 0, .bool false, .int .u8 0, .int .u16 0, .int .u32 0, .int .u8 0, .int .u8 0, .string ⟨#[]⟩] 29)).setRow wc.heap.size #[.int .i64 (nat s 0 1), .int .u8 (nat s 2 1), .int .u8 (nat s 5 1), .int .u16 (nat s 3 2), .int .u16 (nat s 6 2), .int .u16 0, .int .u8 0, .int .u16 0, .int .u16 (nat s 13 2), .int .u16 0, .int .u8 0, .int .u16 0, .bool false, .int .u8 0, .int .u16 0, .int .u32 0, .int .u8 0, .int .u8 0, .string ⟨#[]⟩]) := row_store _ _ _ _ (HT0.out.fg) rfl rfl (fc_one (fE s))
            have htf0 : T2 w ((wc.alloc (.cells #[.int .i64 0, .int .u8 0, .int .u8 0, .int .u16 0, .int .u16 0, .int .u16 0, .int .u8 0, .int .u16 0, .int .u16 0, .int .u16 0, .int .u8 0, .int .u16 0, .bool false, .int .u8 0, .int .u16 0, .int .u32 0, .int .u8 0, .int .u8 0, .string ⟨#[]⟩] 29)).setRow (wc.heap.size) #[.int .i64 (nat s 0 1), .int .u8 (nat s 2 1), .int .u8 (nat s 5 1), .int .u16 (nat s 3 2), .int .u16 (nat s 6 2), .int .u16 0, .int .u8 0, .int .u16 0, .int .u16 (nat s 13 2), .int .u16 0, .int .u8 0, .int .u16 0, .bool false, .int .u8 0, .int .u16 0, .int .u32 0, .int .u8 0, .int .u8 0, .string ⟨#[]⟩]) R (wc.heap.size) fz (fE s) := HT0.out.row (fE s)
            obtain ⟨wd, hwd⟩ : ∃ wd, (wc.alloc (.cells #[.int .i64 0, .int .u8 0, .int .u8 0, .int .u16 0, .int .u16 0, .int .u16 0, .int .u8 0, .int .u16 0, .int .u16 0, .int .u16 0, .int .u8 0, .int .u16 0, .bool false, .int .u8 0, .int .u16 0, .int .u32 0, .int .u8 0, .int .u8 0, .string ⟨#[]⟩] 29)).setRow (wc.heap.size) #[.int .i64 (nat s 0 1), .int .u8 (nat s 2 1), .int .u8 (nat s 5 1), .int .u16 (nat s 3 2), .int .u16 (nat s 6 2), .int .u16 0, .int .u8 0, .int .u16 0, .int .u16 (nat s 13 2), .int .u16 0, .int .u8 0, .int .u16 0, .bool false, .int .u8 0, .int .u16 0, .int .u32 0, .int .u8 0, .int .u8 0, .string ⟨#[]⟩] = wd := ⟨_, rfl⟩
            rw [hwd] at hst0 htf0
            have HTF := Aside0.mk htf0
            clear hwd htf0
            refine wpAnyH_ready (rs := [18]) (by kernel_rfl) (by simp) ?_
            refine AllReadyH.cons rfl (fun K hK => ?_) AllReadyH.nil
            go_simp
            refine hK.out _ _ trivial (fun hHeld => ?_)
            clear hK K hHeld
            refine wpAnyH_done (by kernel_rfl) ?_ _
            go_wp2_with fail
            go_meet
            exact ⟨_, rfl, HTF⟩
          exact AllReadyH.nil
        refine AllReadyH.cons rfl (fun K hK => ?_) ?_
        · go_simp
          refine hK.out _ _ trivial (fun hHeld => ?_)
          clear hK K hHeld
          refine wpAnyH_ready (rs := [14]) (by kernel_rfl) (by simp) ?_
          refine AllReadyH.cons rfl (fun K hK => ?_) ?_
          · go_simp
            go_wp2_with (go_at_call 56; (with_reducible refine (HC13.out _).mono ?_); rintro e wc ⟨rfl, hb⟩; have n0_ := Aside0.mk (HD.out.room (by with_reducible exact hb)); clear HD hb; have HT := n0_; clear n0_)
            refine hK.out _ _ trivial (fun hHeld => ?_)
            clear hK K hHeld
            refine wpAnyH_take (i := 15) (oi := _) (v := ?vv15) rfl (by kernel_rfl) (by kernel_rfl) (by kernel_rfl) (fun _ _ _ h => h) (Or.inl ⟨by rfl, ?hy15⟩) trivial ?go15
            case hy15 =>
              intro w_ hSw
              clear hSw
              go_simp
              try with_reducible rfl
            simp only [Act.put, List.setIfInBounds_toArray, List.set_cons_zero, List.set_cons_succ]
            refine wpAnyH_take (i := 16) (oi := _) (v := ?vv16) rfl (by kernel_rfl) (by kernel_rfl) (by kernel_rfl) (fun _ _ _ h => h) (Or.inl ⟨by rfl, ?hy16⟩) trivial ?go16
            case hy16 =>
              intro w_ hSw
              clear hSw
              go_simp
              try with_reducible rfl
            simp only [Act.put, List.setIfInBounds_toArray, List.set_cons_zero, List.set_cons_succ]
            have hst0 : (st29 (.pointer (some ⟨wb.heap.size, 0, none⟩)) (.agg #[.int .i64 (nat s 0 1), .int .u8 (nat s 2 1), .int .u8 (nat s 5 1), .int .u16 (nat s 3 2), .int .u16 (nat s 6 2), .int .u16 0, .int .u8 0, .int .u16 0, .int .u16 (nat s 13 2), .int .u16 0, .int .u8 0, .int .u16 0, .bool false, .int .u8 0, .int .u16 0, .int .u32 0, .int .u8 0, .int .u8 0, .string ⟨#[]⟩])).run Tryd.prog (wc) = .ok .skip ((wc).setRow wb.heap.size #[.int .i64 (nat s 0 1), .int .u8 (nat s 2 1), .int .u8 (nat s 5 1), .int .u16 (nat s 3 2), .int .u16 (nat s 6 2), .int .u16 0, .int .u8 0, .int .u16 0, .int .u16 (nat s 13 2), .int .u16 0, .int .u8 0, .int .u16 0, .bool false, .int .u8 0, .int .u16 0, .int .u32 0, .int .u8 0, .int .u8 0, .string ⟨#[]⟩]) := row_store _ _ _ _ (HT.out.fg) rfl rfl (fc_one (fE s))
            have htf0 : T2 w ((wc).setRow (wb.heap.size) #[.int .i64 (nat s 0 1), .int .u8 (nat s 2 1), .int .u8 (nat s 5 1), .int .u16 (nat s 3 2), .int .u16 (nat s 6 2), .int .u16 0, .int .u8 0, .int .u16 0, .int .u16 (nat s 13 2), .int .u16 0, .int .u8 0, .int .u16 0, .bool false, .int .u8 0, .int .u16 0, .int .u32 0, .int .u8 0, .int .u8 0, .string ⟨#[]⟩]) R (wb.heap.size) fz (fE s) := HT.out.row (fE s)
            obtain ⟨wd, hwd⟩ : ∃ wd, (wc).setRow (wb.heap.size) #[.int .i64 (nat s 0 1), .int .u8 (nat s 2 1), .int .u8 (nat s 5 1), .int .u16 (nat s 3 2), .int .u16 (nat s 6 2), .int .u16 0, .int .u8 0, .int .u16 0, .int .u16 (nat s 13 2), .int .u16 0, .int .u8 0, .int .u16 0, .bool false, .int .u8 0, .int .u16 0, .int .u32 0, .int .u8 0, .int .u8 0, .string ⟨#[]⟩] = wd := ⟨_, rfl⟩
            rw [hwd] at hst0 htf0
            have HTF := Aside0.mk htf0
            clear hwd htf0
            refine wpAnyH_ready (rs := [18]) (by kernel_rfl) (by simp) ?_
            refine AllReadyH.cons rfl (fun K hK => ?_) AllReadyH.nil
            go_simp
            refine hK.out _ _ trivial (fun hHeld => ?_)
            clear hK K hHeld
            refine wpAnyH_done (by kernel_rfl) ?_ _
            go_wp2_with fail
            go_meet
            exact ⟨_, rfl, HTF⟩
          exact AllReadyH.nil
        exact AllReadyH.nil
      refine AllReadyH.cons rfl (fun K hK => ?_) ?_
      · go_simp
        refine hK.out _ _ trivial (fun hHeld => ?_)
        clear hK K hHeld
        refine wpAnyH_ready (rs := [11]) (by kernel_rfl) (by simp) ?_
        refine AllReadyH.cons rfl (fun K hK => ?_) ?_
        · go_simp
          go_wp2_with (go_at_call 56; (with_reducible refine (HC6.out _).mono ?_); rintro e wb ⟨rfl, hb⟩; have n0_ := Aside0.mk (HD.out.room (by with_reducible exact hb)); clear HD hb; have HT := n0_; clear n0_)
          refine hK.out _ _ trivial (fun hHeld => ?_)
          clear hK K hHeld
          refine wpAnyH_take (i := 12) (oi := _) (v := ?vv17) rfl (by kernel_rfl) (by kernel_rfl) (by kernel_rfl) (fun _ _ _ h => h) (Or.inl ⟨by rfl, ?hy17⟩) trivial ?go17
          case hy17 =>
            intro w_ hSw
            clear hSw
            go_simp
            try with_reducible rfl
          simp only [Act.put, List.setIfInBounds_toArray, List.set_cons_zero, List.set_cons_succ]
          refine wpAnyH_ready (rs := [14]) (by kernel_rfl) (by simp) ?_
          refine AllReadyH.cons rfl (fun K hK => ?_) ?_
          · go_simp
            go_wp2_with (go_at_call 56; (with_reducible refine (HC13.out _).mono ?_); rintro e wc ⟨rfl, hb⟩; have n0_ := Aside0.mk (HT.out.on (by with_reducible exact hb)); clear HT hb; have HT := n0_; clear n0_)
            refine hK.out _ _ trivial (fun hHeld => ?_)
            clear hK K hHeld
            refine wpAnyH_take (i := 15) (oi := _) (v := ?vv18) rfl (by kernel_rfl) (by kernel_rfl) (by kernel_rfl) (fun _ _ _ h => h) (Or.inl ⟨by rfl, ?hy18⟩) trivial ?go18
            case hy18 =>
              intro w_ hSw
              clear hSw
              go_simp
              try with_reducible rfl
            simp only [Act.put, List.setIfInBounds_toArray, List.set_cons_zero, List.set_cons_succ]
            refine wpAnyH_take (i := 16) (oi := _) (v := ?vv19) rfl (by kernel_rfl) (by kernel_rfl) (by kernel_rfl) (fun _ _ _ h => h) (Or.inl ⟨by rfl, ?hy19⟩) trivial ?go19
            case hy19 =>
              intro w_ hSw
              clear hSw
              go_simp
              try with_reducible rfl
            simp only [Act.put, List.setIfInBounds_toArray, List.set_cons_zero, List.set_cons_succ]
            have hst0 : (st29 (.pointer (some ⟨wa.heap.size, 0, none⟩)) (.agg #[.int .i64 (nat s 0 1), .int .u8 (nat s 2 1), .int .u8 (nat s 5 1), .int .u16 (nat s 3 2), .int .u16 (nat s 6 2), .int .u16 0, .int .u8 0, .int .u16 0, .int .u16 (nat s 13 2), .int .u16 0, .int .u8 0, .int .u16 0, .bool false, .int .u8 0, .int .u16 0, .int .u32 0, .int .u8 0, .int .u8 0, .string ⟨#[]⟩])).run Tryd.prog (wc) = .ok .skip ((wc).setRow wa.heap.size #[.int .i64 (nat s 0 1), .int .u8 (nat s 2 1), .int .u8 (nat s 5 1), .int .u16 (nat s 3 2), .int .u16 (nat s 6 2), .int .u16 0, .int .u8 0, .int .u16 0, .int .u16 (nat s 13 2), .int .u16 0, .int .u8 0, .int .u16 0, .bool false, .int .u8 0, .int .u16 0, .int .u32 0, .int .u8 0, .int .u8 0, .string ⟨#[]⟩]) := row_store _ _ _ _ (HT.out.fg) rfl rfl (fc_one (fE s))
            have htf0 : T2 w ((wc).setRow (wa.heap.size) #[.int .i64 (nat s 0 1), .int .u8 (nat s 2 1), .int .u8 (nat s 5 1), .int .u16 (nat s 3 2), .int .u16 (nat s 6 2), .int .u16 0, .int .u8 0, .int .u16 0, .int .u16 (nat s 13 2), .int .u16 0, .int .u8 0, .int .u16 0, .bool false, .int .u8 0, .int .u16 0, .int .u32 0, .int .u8 0, .int .u8 0, .string ⟨#[]⟩]) R (wa.heap.size) fz (fE s) := HT.out.row (fE s)
            obtain ⟨wd, hwd⟩ : ∃ wd, (wc).setRow (wa.heap.size) #[.int .i64 (nat s 0 1), .int .u8 (nat s 2 1), .int .u8 (nat s 5 1), .int .u16 (nat s 3 2), .int .u16 (nat s 6 2), .int .u16 0, .int .u8 0, .int .u16 0, .int .u16 (nat s 13 2), .int .u16 0, .int .u8 0, .int .u16 0, .bool false, .int .u8 0, .int .u16 0, .int .u32 0, .int .u8 0, .int .u8 0, .string ⟨#[]⟩] = wd := ⟨_, rfl⟩
            rw [hwd] at hst0 htf0
            have HTF := Aside0.mk htf0
            clear hwd htf0
            refine wpAnyH_ready (rs := [18]) (by kernel_rfl) (by simp) ?_
            refine AllReadyH.cons rfl (fun K hK => ?_) AllReadyH.nil
            go_simp
            refine hK.out _ _ trivial (fun hHeld => ?_)
            clear hK K hHeld
            refine wpAnyH_done (by kernel_rfl) ?_ _
            go_wp2_with fail
            go_meet
            exact ⟨_, rfl, HTF⟩
          exact AllReadyH.nil
        exact AllReadyH.nil
      exact AllReadyH.nil
    refine AllReadyH.cons rfl (fun K hK => ?_) ?_
    · go_simp
      refine hK.out _ _ trivial (fun hHeld => ?_)
      clear hK K hHeld
      refine wpAnyH_ready (rs := [6]) (by kernel_rfl) (by simp) ?_
      refine AllReadyH.cons rfl (fun K hK => ?_) ?_
      · go_simp
        go_wp2_with (go_at_call 56; (with_reducible refine (HC3.out _).mono ?_); rintro e wa ⟨rfl, hb⟩; have n0_ := Aside0.mk (HD.out.roomd (by with_reducible exact hb)); clear HD hb; have HT := n0_; clear n0_)
        refine hK.out _ _ trivial (fun hHeld => ?_)
        clear hK K hHeld
        refine wpAnyH_take (i := 7) (oi := _) (v := ?vv20) rfl (by kernel_rfl) (by kernel_rfl) (by kernel_rfl) (fun _ _ _ h => h) (Or.inl ⟨by rfl, ?hy20⟩) trivial ?go20
        case hy20 =>
          intro w_ hSw
          clear hSw
          go_simp
          try with_reducible rfl
        simp only [Act.put, List.setIfInBounds_toArray, List.set_cons_zero, List.set_cons_succ]
        refine wpAnyH_ready (rs := [11]) (by kernel_rfl) (by simp) ?_
        refine AllReadyH.cons rfl (fun K hK => ?_) ?_
        · go_simp
          go_wp2_with (go_at_call 56; (with_reducible refine (HC6.out _).mono ?_); rintro e wb ⟨rfl, hb⟩; have n0_ := Aside0.mk (HT.out.on (by with_reducible exact hb)); clear HT hb; have HT := n0_; clear n0_)
          refine hK.out _ _ trivial (fun hHeld => ?_)
          clear hK K hHeld
          refine wpAnyH_take (i := 12) (oi := _) (v := ?vv21) rfl (by kernel_rfl) (by kernel_rfl) (by kernel_rfl) (fun _ _ _ h => h) (Or.inl ⟨by rfl, ?hy21⟩) trivial ?go21
          case hy21 =>
            intro w_ hSw
            clear hSw
            go_simp
            try with_reducible rfl
          simp only [Act.put, List.setIfInBounds_toArray, List.set_cons_zero, List.set_cons_succ]
          refine wpAnyH_ready (rs := [14]) (by kernel_rfl) (by simp) ?_
          refine AllReadyH.cons rfl (fun K hK => ?_) ?_
          · go_simp
            go_wp2_with (go_at_call 56; (with_reducible refine (HC13.out _).mono ?_); rintro e wc ⟨rfl, hb⟩; have n0_ := Aside0.mk (HT.out.on (by with_reducible exact hb)); clear HT hb; have HT := n0_; clear n0_)
            refine hK.out _ _ trivial (fun hHeld => ?_)
            clear hK K hHeld
            refine wpAnyH_take (i := 15) (oi := _) (v := ?vv22) rfl (by kernel_rfl) (by kernel_rfl) (by kernel_rfl) (fun _ _ _ h => h) (Or.inl ⟨by rfl, ?hy22⟩) trivial ?go22
            case hy22 =>
              intro w_ hSw
              clear hSw
              go_simp
              try with_reducible rfl
            simp only [Act.put, List.setIfInBounds_toArray, List.set_cons_zero, List.set_cons_succ]
            refine wpAnyH_take (i := 16) (oi := _) (v := ?vv23) rfl (by kernel_rfl) (by kernel_rfl) (by kernel_rfl) (fun _ _ _ h => h) (Or.inl ⟨by rfl, ?hy23⟩) trivial ?go23
            case hy23 =>
              intro w_ hSw
              clear hSw
              go_simp
              try with_reducible rfl
            simp only [Act.put, List.setIfInBounds_toArray, List.set_cons_zero, List.set_cons_succ]
            have hst0 : (st29 (.pointer (some ⟨W0.heap.size, 0, none⟩)) (.agg #[.int .i64 (nat s 0 1), .int .u8 (nat s 2 1), .int .u8 (nat s 5 1), .int .u16 (nat s 3 2), .int .u16 (nat s 6 2), .int .u16 0, .int .u8 0, .int .u16 0, .int .u16 (nat s 13 2), .int .u16 0, .int .u8 0, .int .u16 0, .bool false, .int .u8 0, .int .u16 0, .int .u32 0, .int .u8 0, .int .u8 0, .string ⟨#[]⟩])).run Tryd.prog (wc) = .ok .skip ((wc).setRow W0.heap.size #[.int .i64 (nat s 0 1), .int .u8 (nat s 2 1), .int .u8 (nat s 5 1), .int .u16 (nat s 3 2), .int .u16 (nat s 6 2), .int .u16 0, .int .u8 0, .int .u16 0, .int .u16 (nat s 13 2), .int .u16 0, .int .u8 0, .int .u16 0, .bool false, .int .u8 0, .int .u16 0, .int .u32 0, .int .u8 0, .int .u8 0, .string ⟨#[]⟩]) := row_store _ _ _ _ (HT.out.fg) rfl rfl (fc_one (fE s))
            have htf0 : T2 w ((wc).setRow (W0.heap.size) #[.int .i64 (nat s 0 1), .int .u8 (nat s 2 1), .int .u8 (nat s 5 1), .int .u16 (nat s 3 2), .int .u16 (nat s 6 2), .int .u16 0, .int .u8 0, .int .u16 0, .int .u16 (nat s 13 2), .int .u16 0, .int .u8 0, .int .u16 0, .bool false, .int .u8 0, .int .u16 0, .int .u32 0, .int .u8 0, .int .u8 0, .string ⟨#[]⟩]) R (W0.heap.size) fz (fE s) := HT.out.row (fE s)
            obtain ⟨wd, hwd⟩ : ∃ wd, (wc).setRow (W0.heap.size) #[.int .i64 (nat s 0 1), .int .u8 (nat s 2 1), .int .u8 (nat s 5 1), .int .u16 (nat s 3 2), .int .u16 (nat s 6 2), .int .u16 0, .int .u8 0, .int .u16 0, .int .u16 (nat s 13 2), .int .u16 0, .int .u8 0, .int .u16 0, .bool false, .int .u8 0, .int .u16 0, .int .u32 0, .int .u8 0, .int .u8 0, .string ⟨#[]⟩] = wd := ⟨_, rfl⟩
            rw [hwd] at hst0 htf0
            have HTF := Aside0.mk htf0
            clear hwd htf0
            refine wpAnyH_ready (rs := [18]) (by kernel_rfl) (by simp) ?_
            refine AllReadyH.cons rfl (fun K hK => ?_) AllReadyH.nil
            go_simp
            refine hK.out _ _ trivial (fun hHeld => ?_)
            clear hK K hHeld
            refine wpAnyH_done (by kernel_rfl) ?_ _
            go_wp2_with fail
            go_meet
            exact ⟨_, rfl, HTF⟩
          exact AllReadyH.nil
        exact AllReadyH.nil
      exact AllReadyH.nil
    exact AllReadyH.nil
  case rest =>
    obtain ⟨X, rfl, HT⟩ := hcut
    go_upto_region 2 with (fail)
    have n0_ := Aside0.mk HT.out.drew
    clear HT
    have HT := n0_
    clear n0_
    refine wp_region_held_drew (S := fun _ => True) (by kernel_rfl) trivial (fun hHeld => ?_)
    clear hHeld
    refine wpAnyH_take (i := 0) (oi := _) (v := ?vv101) rfl (by kernel_rfl) (by kernel_rfl) (by kernel_rfl) (fun _ _ _ h => h) (Or.inl ⟨by rfl, ?hy101⟩) trivial ?go101
    case hy101 =>
      intro w_ hSw
      clear hSw
      go_simp
      try with_reducible rfl
    simp only [Act.put, List.setIfInBounds_toArray, List.set_cons_zero, List.set_cons_succ]
    refine wpAnyH_take (i := 3) (oi := _) (v := ?vv102) rfl (by kernel_rfl) (by kernel_rfl) (by kernel_rfl) (fun _ _ _ h => h) (Or.inl ⟨by rfl, ?hy102⟩) trivial ?go102
    case hy102 =>
      intro w_ hSw
      clear hSw
      go_simp
      try with_reducible rfl
    simp only [Act.put, List.setIfInBounds_toArray, List.set_cons_zero, List.set_cons_succ]
    refine wpAnyH_take (i := 5) (oi := _) (v := ?vv103) rfl (by kernel_rfl) (by kernel_rfl) (by kernel_rfl) (fun _ _ _ h => h) (Or.inl ⟨by rfl, ?hy103⟩) trivial ?go103
    case hy103 =>
      intro w_ hSw
      clear hSw
      go_simp
      try with_reducible rfl
    simp only [Act.put, List.setIfInBounds_toArray, List.set_cons_zero, List.set_cons_succ]
    refine wpAnyH_take (i := 4) (oi := _) (v := ?vv104) rfl (by kernel_rfl) (by kernel_rfl) (by kernel_rfl) (fun _ _ _ h => h) (Or.inl ⟨by rfl, ?hy104⟩) trivial ?go104
    case hy104 =>
      intro w_ hSw
      clear hSw
      go_simp
      try with_reducible rfl
    simp only [Act.put, List.setIfInBounds_toArray, List.set_cons_zero, List.set_cons_succ]
    refine wpAnyH_ready (rs := [1]) (by kernel_rfl) (by simp) ?_
    refine AllReadyH.cons rfl (fun K hK => ?_) AllReadyH.nil
    go_simp
    go_wp2_with (go_at_call 56; (with_reducible refine (HC8.out _).mono ?_); rintro e wq ⟨rfl, hb⟩; have n0_ := Aside0.mk (HT.out.on (by with_reducible exact hb)); clear HT hb; have HT := n0_; clear n0_)
    refine hK.out _ _ trivial (fun hHeld => ?_)
    clear hK K hHeld
    refine wpAnyH_take (i := 2) (oi := _) (v := ?vv105) rfl (by kernel_rfl) (by kernel_rfl) (by kernel_rfl) (fun _ _ _ h => h) (Or.inl ⟨by rfl, ?hy105⟩) trivial ?go105
    case hy105 =>
      intro w_ hSw
      clear hSw
      go_simp
      try with_reducible rfl
    simp only [Act.put, List.setIfInBounds_toArray, List.set_cons_zero, List.set_cons_succ]
    refine wpAnyH_ready (rs := [6]) (by kernel_rfl) (by simp) ?_
    refine AllReadyH.cons rfl (fun K hK => ?_) AllReadyH.nil
    go_simp
    go_wp2_with (go_at_call 56; (with_reducible refine (HC11.out _).mono ?_); rintro e wq ⟨rfl, hb⟩; have n0_ := Aside0.mk (HT.out.on (by with_reducible exact hb)); clear HT hb; have HT := n0_; clear n0_)
    refine hK.out _ _ trivial (fun hHeld => ?_)
    clear hK K hHeld
    refine wpAnyH_take (i := 7) (oi := _) (v := ?vv106) rfl (by kernel_rfl) (by kernel_rfl) (by kernel_rfl) (fun _ _ _ h => h) (Or.inl ⟨by rfl, ?hy106⟩) trivial ?go106
    case hy106 =>
      intro w_ hSw
      clear hSw
      go_simp
      try with_reducible rfl
    simp only [Act.put, List.setIfInBounds_toArray, List.set_cons_zero, List.set_cons_succ]
    refine wpAnyH_take (i := 8) (oi := _) (v := ?vv107) rfl (by kernel_rfl) (by kernel_rfl) (by kernel_rfl) (fun _ _ _ h => h) (Or.inl ⟨by rfl, ?hy107⟩) trivial ?go107
    case hy107 =>
      intro w_ hSw
      clear hSw
      go_simp
      try with_reducible rfl
    simp only [Act.put, List.setIfInBounds_toArray, List.set_cons_zero, List.set_cons_succ]
    refine wpAnyH_take (i := 9) (oi := _) (v := ?vv108) rfl (by kernel_rfl) (by kernel_rfl) (by kernel_rfl) (fun _ _ _ h => h) (Or.inl ⟨by rfl, ?hy108⟩) trivial ?go108
    case hy108 =>
      intro w_ hSw
      clear hSw
      go_simp
      try with_reducible rfl
    simp only [Act.put, List.setIfInBounds_toArray, List.set_cons_zero, List.set_cons_succ]
    obtain ⟨c0, c1, c2, c3, c4, c5, c6, c7, c8, c9, c10, c11, c12, c13, c14, c15, c16, c17, c18⟩ := HT.out.fg.cells
    have hfr := HT.out.fg.frees
    refine wpAnyH_ready (rs := [10]) (by kernel_rfl) (by simp) ?_
    refine AllReadyH.cons rfl (fun K hK => ?_) AllReadyH.nil
    go_simp
    refine hK.out _ _ trivial (fun hHeld => ?_)
    clear hK K hHeld
    refine wpAnyH_done (by kernel_rfl) ?_ _
    have n0_ := Aside0.mk ((((HT.out.put 5 (.int .u16 (nat s 8 2)) ({ fE s with ec := nat s 8 2 }) rfl).put 6 (.int .u8 (nat s 10 1)) ({ fE s with ec := nat s 8 2, ea := nat s 10 1 }) rfl).put 7 (.int .u16 (nat s 11 2)) (fF s) rfl))
    clear HT hfr c0 c1 c2 c3 c4 c5 c6 c7 c8 c9 c10 c11 c12 c13 c14 c15 c16 c17 c18
    have HT := n0_
    clear n0_
    obtain ⟨c0, _⟩ := HT.out.fg.cells
    by_cases k3 : nat s 0 1 = 3
    · rw [show (fF s).kind = nat s 0 1 from rfl, k3] at c0
      have HZ := Aside0.mk (H34.out.1 k3)
      have HF := Aside0.mk (if_pos k3 : (if nat s 0 1 = 3 then fH s else if nat s 0 1 = 4 then fG s else fF s) = fH s)
      have HK3 := Aside0.mk k3
      clear k3
      have HC15 := Aside0.mk fun W : World => rnum W s 15 2 15 2 (by have := HZ.out; omega) (by have := HZ.out; omega) (by omega) rfl rfl
      have y15 := (nat_rng s 15 2).1
      have z15 : nat s 15 2 < 65536 := (nat_rng s 15 2).2
      have u15 : IntKind.u16.wrap (nat s 15 2) = nat s 15 2 := by rw [IntKind.wrap_u16]; omega
      have HC18 := Aside0.mk fun W : World => rnum W s 18 2 18 2 (by have := HZ.out; omega) (by have := HZ.out; omega) (by omega) rfl rfl
      have y18 := (nat_rng s 18 2).1
      have z18 : nat s 18 2 < 65536 := (nat_rng s 18 2).2
      have u18 : IntKind.u16.wrap (nat s 18 2) = nat s 18 2 := by rw [IntKind.wrap_u16]; omega
      have x17 := idxi s 17 17 (by have := HZ.out; omega) rfl
      have x20 := idxi s 20 20 (by have := HZ.out; omega) rfl
      go_upto_region 4 with (fail)
      clear c0
      have n0_ := Aside0.mk HT.out.drew
      clear HT
      have HT := n0_
      clear n0_
      refine wp_region_held_drew (S := fun _ => True) (by kernel_rfl) trivial (fun hHeld => ?_)
      clear hHeld
      refine wpAnyH_take (i := 0) (oi := _) (v := ?vv109) rfl (by kernel_rfl) (by kernel_rfl) (by kernel_rfl) (fun _ _ _ h => h) (Or.inl ⟨by rfl, ?hy109⟩) trivial ?go109
      case hy109 =>
        intro w_ hSw
        clear hSw
        go_simp
        try with_reducible rfl
      simp only [Act.put, List.setIfInBounds_toArray, List.set_cons_zero, List.set_cons_succ]
      refine wpAnyH_take (i := 3) (oi := _) (v := ?vv110) rfl (by kernel_rfl) (by kernel_rfl) (by kernel_rfl) (fun _ _ _ h => h) (Or.inl ⟨by rfl, ?hy110⟩) trivial ?go110
      case hy110 =>
        intro w_ hSw
        clear hSw
        go_simp
        try with_reducible rfl
      simp only [Act.put, List.setIfInBounds_toArray, List.set_cons_zero, List.set_cons_succ]
      refine wpAnyH_take (i := 5) (oi := _) (v := ?vv111) rfl (by kernel_rfl) (by kernel_rfl) (by kernel_rfl) (fun _ _ _ h => h) (Or.inl ⟨by rfl, ?hy111⟩) trivial ?go111
      case hy111 =>
        intro w_ hSw
        clear hSw
        go_simp
        try with_reducible rfl
      simp only [Act.put, List.setIfInBounds_toArray, List.set_cons_zero, List.set_cons_succ]
      refine wpAnyH_take (i := 4) (oi := _) (v := ?vv112) rfl (by kernel_rfl) (by kernel_rfl) (by kernel_rfl) (fun _ _ _ h => h) (Or.inl ⟨by rfl, ?hy112⟩) trivial ?go112
      case hy112 =>
        intro w_ hSw
        clear hSw
        go_simp
        try with_reducible rfl
      simp only [Act.put, List.setIfInBounds_toArray, List.set_cons_zero, List.set_cons_succ]
      refine wpAnyH_ready (rs := [1]) (by kernel_rfl) (by simp) ?_
      refine AllReadyH.cons rfl (fun K hK => ?_) AllReadyH.nil
      go_simp
      go_wp2_with (go_at_call 56; (with_reducible refine (HC15.out _).mono ?_); rintro e wq ⟨rfl, hb⟩; have n0_ := Aside0.mk (HT.out.on (by with_reducible exact hb)); clear HT hb; have HT := n0_; clear n0_)
      refine hK.out _ _ trivial (fun hHeld => ?_)
      clear hK K hHeld
      refine wpAnyH_take (i := 2) (oi := _) (v := ?vv113) rfl (by kernel_rfl) (by kernel_rfl) (by kernel_rfl) (fun _ _ _ h => h) (Or.inl ⟨by rfl, ?hy113⟩) trivial ?go113
      case hy113 =>
        intro w_ hSw
        clear hSw
        go_simp
        try with_reducible rfl
      simp only [Act.put, List.setIfInBounds_toArray, List.set_cons_zero, List.set_cons_succ]
      refine wpAnyH_ready (rs := [6]) (by kernel_rfl) (by simp) ?_
      refine AllReadyH.cons rfl (fun K hK => ?_) AllReadyH.nil
      go_simp
      go_wp2_with (go_at_call 56; (with_reducible refine (HC18.out _).mono ?_); rintro e wq ⟨rfl, hb⟩; have n0_ := Aside0.mk (HT.out.on (by with_reducible exact hb)); clear HT hb; have HT := n0_; clear n0_)
      refine hK.out _ _ trivial (fun hHeld => ?_)
      clear hK K hHeld
      refine wpAnyH_take (i := 7) (oi := _) (v := ?vv114) rfl (by kernel_rfl) (by kernel_rfl) (by kernel_rfl) (fun _ _ _ h => h) (Or.inl ⟨by rfl, ?hy114⟩) trivial ?go114
      case hy114 =>
        intro w_ hSw
        clear hSw
        go_simp
        try with_reducible rfl
      simp only [Act.put, List.setIfInBounds_toArray, List.set_cons_zero, List.set_cons_succ]
      refine wpAnyH_take (i := 8) (oi := _) (v := ?vv115) rfl (by kernel_rfl) (by kernel_rfl) (by kernel_rfl) (fun _ _ _ h => h) (Or.inl ⟨by rfl, ?hy115⟩) trivial ?go115
      case hy115 =>
        intro w_ hSw
        clear hSw
        go_simp
        try with_reducible rfl
      simp only [Act.put, List.setIfInBounds_toArray, List.set_cons_zero, List.set_cons_succ]
      refine wpAnyH_take (i := 9) (oi := _) (v := ?vv116) rfl (by kernel_rfl) (by kernel_rfl) (by kernel_rfl) (fun _ _ _ h => h) (Or.inl ⟨by rfl, ?hy116⟩) trivial ?go116
      case hy116 =>
        intro w_ hSw
        clear hSw
        go_simp
        try with_reducible rfl
      simp only [Act.put, List.setIfInBounds_toArray, List.set_cons_zero, List.set_cons_succ]
      obtain ⟨c0, c1, c2, c3, c4, c5, c6, c7, c8, c9, c10, c11, c12, c13, c14, c15, c16, c17, c18⟩ := HT.out.fg.cells
      have hfr := HT.out.fg.frees
      refine wpAnyH_ready (rs := [10]) (by kernel_rfl) (by simp) ?_
      refine AllReadyH.cons rfl (fun K hK => ?_) AllReadyH.nil
      go_simp
      refine hK.out _ _ trivial (fun hHeld => ?_)
      clear hK K hHeld
      refine wpAnyH_done (by kernel_rfl) ?_ _
      have n0_ := Aside0.mk ((((HT.out.put 9 (.int .u16 (nat s 15 2)) ({ fF s with hc := nat s 15 2 }) rfl).put 10 (.int .u8 (nat s 17 1)) ({ fF s with hc := nat s 15 2, ha := nat s 17 1 }) rfl).put 11 (.int .u16 (nat s 18 2)) ({ fF s with hc := nat s 15 2, ha := nat s 17 1, hi := nat s 18 2 }) rfl))
      clear HT hfr c0 c1 c2 c3 c4 c5 c6 c7 c8 c9 c10 c11 c12 c13 c14 c15 c16 c17 c18
      have HT := n0_
      clear n0_
      obtain ⟨c0, c1, c2, c3, c4, c5, c6, c7, c8, c9, c10, c11, c12, c13, c14, c15, c16, c17, c18⟩ := HT.out.fg.cells
      have hfr := HT.out.fg.frees
      go_upto_region 6 with (fail)
      have n0_ := Aside0.mk ((HT.out.put 12 (.bool (nat s 20 1 == 1)) (fH s) rfl))
      clear HT hfr c0 c1 c2 c3 c4 c5 c6 c7 c8 c9 c10 c11 c12 c13 c14 c15 c16 c17 c18
      have HT := n0_
      clear n0_
      obtain ⟨c0, _⟩ := HT.out.fg.cells
      rw [show (fH s).kind = nat s 0 1 from rfl, HK3.out] at c0
      go_upto_region 12 with (fail)
      refine wp_region_lit ?_
      refine wpList_load_row rfl 29 (.tmp 3) rfl X rfl 29 (FC (fH s)) (0, 0) _ HT.out.fg Tryd.underlying29 rfl (by kernel_rfl) ?_
      refine wpList_store_row rfl 29 (.tmp 2) (.tmp 73) rfl R (FC (fH s)) rfl rfl 29 (FC fz) HT.out.fr (by kernel_rfl) rfl (fc_one _) ?_
      simp only [Act.put, List.setIfInBounds_toArray, List.set_cons_zero, List.set_cons_succ]
      refine wpList_nil ?_
      have hk_ := ‹∀ (a : Act) (w : World), Code.wp Tryd.prog Code.ret _ a w → _›
      refine hk_ _ _ ?_
      refine wp_ret ?_
      exact bodyPost_ret (rframe_end HT.out.fr _ rfl) rfl ⟨by rw [HF.out], HT.out.last (by rw [HSZ.out]; exact Nat.le_refl _) _⟩
    · have b3 : (nat s 0 1 == 3) = false := beq_eq_false_iff_ne.2 k3
      have HN3 := Aside0.mk k3
      clear k3
      rw [show (fF s).kind = nat s 0 1 from rfl] at c0
      by_cases k4 : nat s 0 1 = 4
      · rw [k4] at c0
        have HZ := Aside0.mk (H34.out.2 k4)
        have HF := Aside0.mk ((if_neg HN3.out).trans (if_pos k4) : (if nat s 0 1 = 3 then fH s else if nat s 0 1 = 4 then fG s else fF s) = fG s)
        clear k4 b3
        have HZ2 := HZ
        clear HZ
        have HZ := Aside0.mk (show 27 ≤ s.size ∧ s.size ≤ 1000 from ⟨HZ2.out, HS.out.2⟩)
        clear HZ2
        have HC16 := Aside0.mk fun W : World => rnum W s 16 2 16 2 (by have := HZ.out; omega) (by have := HZ.out; omega) (by omega) rfl rfl
        have y16 := (nat_rng s 16 2).1
        have z16 : nat s 16 2 < 65536 := (nat_rng s 16 2).2
        have u16 : IntKind.u16.wrap (nat s 16 2) = nat s 16 2 := by rw [IntKind.wrap_u16]; omega
        have HC18 := Aside0.mk fun W : World => rnum W s 18 4 18 4 (by have := HZ.out; omega) (by have := HZ.out; omega) (by omega) rfl rfl
        have y18 := (nat_rng s 18 4).1
        have z18 : nat s 18 4 < 4294967296 := (nat_rng s 18 4).2
        have x15 := idxi s 15 15 (by have := HZ.out; omega) rfl
        have x22 := idxi s 22 22 (by have := HZ.out; omega) rfl
        have x23 := idxi s 23 23 (by have := HZ.out; omega) rfl
        have hsl2 : ∀ W : World, (Instr.slice 9 (.string s) (some (.int .i64 24)) (some (.int .i64 ((s.size : Int) - 2))) none).run Tryd.prog W = .ok (.string (s.extract 24 (s.size - 2))) W := fun W => by
          have h_ := HZ.out
          have h2_ : ((s.size : Int) - 2).toNat = s.size - 2 := by omega
          have h3_ := run_slice_string (P := Tryd.prog) (w := W) 9 s .i64 .i64 24 ((s.size : Int) - 2) Tryd.underlying9 (by omega) (by omega) (by omega)
          rw [h2_] at h3_
          exact h3_
        have g1 : 27 ≤ (s.size : Int) := by have := HZ.out; omega
        have g2 : (s.size : Int) ≤ 1000 := by have := HZ.out; omega
        go_upto_region 7 with (fail)
        obtain ⟨c0, c1, c2, c3, c4, c5, c6, c7, c8, c9, c10, c11, c12, c13, c14, c15, c16, c17, c18⟩ := HT.out.fg.cells
        have hfr := HT.out.fg.frees
        go_upto_region 8 with (fail)
        have n0_ := Aside0.mk ((HT.out.put 13 (.int .u8 (nat s 15 1)) ({ fF s with blk := nat s 15 1 }) rfl))
        clear HT hfr c0 c1 c2 c3 c4 c5 c6 c7 c8 c9 c10 c11 c12 c13 c14 c15 c16 c17 c18
        have HT := n0_
        clear n0_
        go_upto_region 9 with (first | (go_at_call 56; (with_reducible refine (HC16.out _).mono ?_); rintro e wq ⟨rfl, hb⟩; have n0_ := Aside0.mk (HT.out.on (by with_reducible exact hb)); clear HT hb; have HT := n0_; clear n0_) | (go_at_call 56; (with_reducible refine (HC18.out _).mono ?_); rintro e wq ⟨rfl, hb⟩; have n0_ := Aside0.mk (HT.out.on (by with_reducible exact hb)); clear HT hb; have HT := n0_; clear n0_; obtain ⟨c0, c1, c2, c3, c4, c5, c6, c7, c8, c9, c10, c11, c12, c13, c14, c15, c16, c17, c18⟩ := HT.out.fg.cells; have hfr := HT.out.fg.frees))
        have n0_ := Aside0.mk (((HT.out.put 14 (.int .u16 (nat s 16 2)) ({ fF s with blk := nat s 15 1, vinc := nat s 16 2 }) rfl).put 15 (.int .u32 (nat s 18 4)) ({ fF s with blk := nat s 15 1, vinc := nat s 16 2, vseq := nat s 18 4 }) rfl))
        clear HT hfr c0 c1 c2 c3 c4 c5 c6 c7 c8 c9 c10 c11 c12 c13 c14 c15 c16 c17 c18
        have HT := n0_
        clear n0_
        obtain ⟨c0, c1, c2, c3, c4, c5, c6, c7, c8, c9, c10, c11, c12, c13, c14, c15, c16, c17, c18⟩ := HT.out.fg.cells
        have hfr := HT.out.fg.frees
        go_upto_region 10 with (fail)
        have n0_ := Aside0.mk ((HT.out.put 16 (.int .u8 (nat s 22 1)) ({ fF s with blk := nat s 15 1, vinc := nat s 16 2, vseq := nat s 18 4, part := nat s 22 1 }) rfl))
        clear HT hfr c0 c1 c2 c3 c4 c5 c6 c7 c8 c9 c10 c11 c12 c13 c14 c15 c16 c17 c18
        have HT := n0_
        clear n0_
        obtain ⟨c0, c1, c2, c3, c4, c5, c6, c7, c8, c9, c10, c11, c12, c13, c14, c15, c16, c17, c18⟩ := HT.out.fg.cells
        have hfr := HT.out.fg.frees
        go_upto_region 11 with (fail)
        have n0_ := Aside0.mk ((HT.out.put 17 (.int .u8 (nat s 23 1)) ({ fF s with blk := nat s 15 1, vinc := nat s 16 2, vseq := nat s 18 4, part := nat s 22 1, parts := nat s 23 1 }) rfl))
        clear HT hfr c0 c1 c2 c3 c4 c5 c6 c7 c8 c9 c10 c11 c12 c13 c14 c15 c16 c17 c18
        have HT := n0_
        clear n0_
        obtain ⟨c0, c1, c2, c3, c4, c5, c6, c7, c8, c9, c10, c11, c12, c13, c14, c15, c16, c17, c18⟩ := HT.out.fg.cells
        have hfr := HT.out.fg.frees
        go_upto_region 12 with (fail)
        have n0_ := Aside0.mk ((HT.out.put 18 (.string (s.extract 24 (s.size - 2))) (fG s) rfl))
        clear HT hfr c0 c1 c2 c3 c4 c5 c6 c7 c8 c9 c10 c11 c12 c13 c14 c15 c16 c17 c18
        have HT := n0_
        clear n0_
        go_upto_region 12 with (fail)
        refine wp_region_lit ?_
        refine wpList_load_row rfl 29 (.tmp 3) rfl X rfl 29 (FC (fG s)) (0, 0) _ HT.out.fg Tryd.underlying29 rfl (by kernel_rfl) ?_
        refine wpList_store_row rfl 29 (.tmp 2) (.tmp 73) rfl R (FC (fG s)) rfl rfl 29 (FC fz) HT.out.fr (by kernel_rfl) rfl (fc_one _) ?_
        simp only [Act.put, List.setIfInBounds_toArray, List.set_cons_zero, List.set_cons_succ]
        refine wpList_nil ?_
        have hk_ := ‹∀ (a : Act) (w : World), Code.wp Tryd.prog Code.ret _ a w → _›
        refine hk_ _ _ ?_
        refine wp_ret ?_
        exact bodyPost_ret (rframe_end HT.out.fr _ rfl) rfl ⟨by rw [HF.out], HT.out.last (by rw [HSZ.out]; exact Nat.le_refl _) _⟩
      · have b4 : (nat s 0 1 == 4) = false := beq_eq_false_iff_ne.2 k4
        have HF := Aside0.mk ((if_neg HN3.out).trans (if_neg k4) : (if nat s 0 1 = 3 then fH s else if nat s 0 1 = 4 then fG s else fF s) = fF s)
        clear k4
        go_upto_region 12 with (fail)
        refine wp_region_lit ?_
        refine wpList_load_row rfl 29 (.tmp 3) rfl X rfl 29 (FC (fF s)) (0, 0) _ HT.out.fg Tryd.underlying29 rfl (by kernel_rfl) ?_
        refine wpList_store_row rfl 29 (.tmp 2) (.tmp 73) rfl R (FC (fF s)) rfl rfl 29 (FC fz) HT.out.fr (by kernel_rfl) rfl (fc_one _) ?_
        simp only [Act.put, List.setIfInBounds_toArray, List.set_cons_zero, List.set_cons_succ]
        refine wpList_nil ?_
        have hk_ := ‹∀ (a : Act) (w : World), Code.wp Tryd.prog Code.ret _ a w → _›
        refine hk_ _ _ ?_
        refine wp_ret ?_
        exact bodyPost_ret (rframe_end HT.out.fr _ rfl) rfl ⟨by rw [HF.out], HT.out.last (by rw [HSZ.out]; exact Nat.le_refl _) _⟩
end
theorem frr_eq (s : ByteArray) (hz : okSize (nat s 0 1) s.size) : (if nat s 0 1 = 3 then fH s else if nat s 0 1 = 4 then fG s else fF s) = rdf (ahead s) := by
  have h1 := okSize_lo hz
  have n : ∀ p m, p + m ≤ 15 → nat (ahead s) p m = nat s p m := fun p m h => ahead_nat s p m (by omega)
  unfold okSize at hz
  have hD : fD (ahead s) = fF s := by
    unfold fD fC fB fA fF fE
    rw [n 0 1 (by omega), n 2 1 (by omega), n 3 2 (by omega), n 5 1 (by omega), n 6 2 (by omega), n 8 2 (by omega), n 10 1 (by omega), n 11 2 (by omega), n 13 2 (by omega)]
  unfold rdf
  rw [n 0 1 (by omega)]
  by_cases k3 : nat s 0 1 = 3
  · rw [if_pos k3, if_pos k3]
    unfold fH fS
    rw [hD, ahead_nat s 15 2 (by omega), ahead_nat s 17 1 (by omega), ahead_nat s 18 2 (by omega), ahead_nat s 20 1 (by omega)]
  · rw [if_neg k3, if_neg k3]
    by_cases k4 : nat s 0 1 = 4
    · rw [if_pos k4, if_pos k4]
      unfold fG fT
      have hb : (ahead s).extract 24 (ahead s).size = s.extract 24 (s.size - 2) := by
        rw [ahead_size]
        unfold ahead
        rw [ByteArray.extract_extract]
        congr 1 <;> omega
      rw [hD, ahead_nat s 15 1 (by omega), ahead_nat s 16 2 (by omega), ahead_nat s 18 4 (by omega), ahead_nat s 22 1 (by omega), ahead_nat s 23 1 (by omega), hb]
    · rw [if_neg k4, if_neg k4, hD]
theorem rframe_f (w : World) (s : ByteArray) (hl : isLen s) (hz : okSize (nat s 0 1) s.size) : Calls Tryd.prog 41 #[.string s] w fun e w' => e = .returned (.agg (FC (rdf (ahead s)))) ∧ Below w.heap.size w w' := by
  have h1 := okSize_lo hz
  rw [← frr_eq s hz]
  unfold okSize at hz
  exact rframe_x w s (by omega) (fun h => by omega) (fun h => by omega)
end Go.Proofs.YtkcaifpmceoflaaDoor.Frm

/- Contracts of functions of the given program, each under the conditions that it states (a run of the kit's printer, by hprint.py, with contracts of our own among its functions). -/
import Derived.Test.YtkcaifpmceoflaaDoorOwnx0
namespace Go.Proofs.YtkcaifpmceoflaaDoor.Own
open Go.RowKit Go.Proofs.YtkcaifpmceoflaaDoorW.PrintWords Go.Proofs.YtkcaifpmceoflaaDoorW.PrintLast Go.Proofs.YtkcaifpmceoflaaDoorW.PrintMore
attribute [local go_sem] max2_int min2_int max_two min_two max_three min_three max_four min_four   -- for this text's walks alone
set_option linter.unusedVariables false
set_option linter.unusedSimpArgs false

/-! ### the table of powers of ten, by hand -/
/-- The table that strconv reads holds what start-up laid. -/
def Tabs (w : World) : Prop := Lib.TabIs Tryd.prog w "internal/strconv.uint64pow10" .u64 Lib.pow10Tab
theorem tabs_below {w w' : World} (h : Tabs w) (hb : Below w.heap.size w w') : Tabs w' := Lib.tabBelow_of_tabIs h w' hb
theorem tabs_alloc {w : World} (h : Tabs w) (o : Obj) : Tabs (w.alloc o) := tabs_below h ((Below.refl _ _).alloc (Nat.le_refl _) _)
theorem tabs_drew {w : World} (h : Tabs w) : Tabs w.drew := tabs_below h ⟨rfl, rfl, rfl, Nat.le_refl _, fun _ _ => rfl⟩
theorem tabs_drewN {w : World} (h : Tabs w) (n : Nat) : Tabs (w.drewN n) := tabs_below h ⟨rfl, rfl, rfl, Nat.le_refl _, fun _ _ => rfl⟩

/-! ### frame_shapes: function 29 (by hand: an array of structs that is built) -/
theorem h_built {P : Program} {ops : Array Oper} {rest : List Oper} {o : Oper} {a : Act} {w : World} {Q : Exit → Act → World → Prop} (hg : o.guard = none) (t : TypeId) (parts : Array (Nat × Operand)) (ho : o.op = .build t parts) (cells : Array Value)
    (hc : P.built t (parts.map fun (i, x) => (i, a.eval x)).toList = some cells)
    (h : wpList P ops Q rest (a.put o.dst (.agg cells)) w) : wpList P ops Q (o :: rest) a w :=
  wpList_build hg t parts ho (by rw [hc]; rfl) (by rw [hc]; exact h)
def h_shs : Array Value := #[.string ⟨#[]⟩, .bool false, .int .i64 0, .int .i64 0, .string ⟨#[116, 111, 107, 101, 110]⟩, .bool true, .int .i64 17, .int .i64 17, .string ⟨#[112, 111, 108, 108]⟩, .bool true, .int .i64 17, .int .i64 17, .string ⟨#[115, 116, 97, 116, 117, 115]⟩, .bool true, .int .i64 23, .int .i64 23, .string ⟨#[100, 97, 116, 97]⟩, .bool false, .int .i64 27, .int .i64 42, .string ⟨#[108, 101, 97, 118, 101]⟩, .bool true, .int .i64 17, .int .i64 17]
def h_zs : Array Value := #[.string ⟨#[]⟩, .bool false, .int .i64 0, .int .i64 0, .string ⟨#[]⟩, .bool false, .int .i64 0, .int .i64 0, .string ⟨#[]⟩, .bool false, .int .i64 0, .int .i64 0, .string ⟨#[]⟩, .bool false, .int .i64 0, .int .i64 0, .string ⟨#[]⟩, .bool false, .int .i64 0, .int .i64 0, .string ⟨#[]⟩, .bool false, .int .i64 0, .int .i64 0]
theorem h_sh_built : Tryd.prog.built 74 [(1, .agg #[.string ⟨#[116, 111, 107, 101, 110]⟩, .bool true, .int .i64 17, .int .i64 17]), (2, .agg #[.string ⟨#[112, 111, 108, 108]⟩, .bool true, .int .i64 17, .int .i64 17]), (3, .agg #[.string ⟨#[115, 116, 97, 116, 117, 115]⟩, .bool true, .int .i64 23, .int .i64 23]), (4, .agg #[.string ⟨#[100, 97, 116, 97]⟩, .bool false, .int .i64 27, .int .i64 42]), (5, .agg #[.string ⟨#[108, 101, 97, 118, 101]⟩, .bool true, .int .i64 17, .int .i64 17])] = some h_shs := by kernel_rfl
theorem h_row (w : World) (o : Obj) (cs cells : Array Value) (t : TypeId) : ((w.alloc o).alloc (.cells cs t)).heap[w.heap.size + 1]? = some (.cells cs t (0, 0)) := by
  rw [show ((w.alloc o).alloc (.cells cs t)).heap = (w.heap.push o).push (.cells cs t) from rfl, Array.getElem?_push, Array.size_push, if_pos rfl]
theorem h_new (w : World) (cs0 cs cells : Array Value) (t0 t : TypeId) : ∃ W, ((w.alloc (.cells cs0 t0)).alloc (.cells cs t)).setRow (w.heap.size + 1) cells = W ∧ (∀ j, W.cell? ⟨w.heap.size + 1, j, none⟩ = cells[j]?) ∧ (∀ j, W.cell? ⟨w.heap.size, j, none⟩ = cs0[j]?) ∧ (∀ j, W.frozen? ⟨w.heap.size, j, none⟩ = false) ∧ Below w.heap.size w W := by
  have h1 := h_row w (.cells cs0 t0) cs cells t
  have h0 : ((w.alloc (.cells cs0 t0)).alloc (.cells cs t)).heap[w.heap.size]? = some (.cells cs0 t0 (0, 0)) := by
    rw [show ((w.alloc (.cells cs0 t0)).alloc (.cells cs t)).heap = (w.heap.push (.cells cs0 t0)).push (.cells cs t) from rfl, Array.getElem?_push, Array.size_push, if_neg (by omega), Array.getElem?_push, if_pos rfl]
  have h2 : (((w.alloc (.cells cs0 t0)).alloc (.cells cs t)).setRow (w.heap.size + 1) cells).heap[w.heap.size]? = some (.cells cs0 t0 (0, 0)) := (setRow_other _ _ _ _ (by omega)).trans h0
  refine ⟨_, rfl, fun j => cell_setRow_same _ _ _ _ _ _ _ h1, fun j => blk_cell h2 j, fun j => ?_, ?_⟩
  · simp only [World.frozen?, h2]
    simp
  · refine ((((Below.refl _ w).alloc (Nat.le_refl _) _).alloc (by rw [show (w.alloc (.cells cs0 t0)).heap = w.heap.push (.cells cs0 t0) from rfl, Array.size_push]; omega) _)).trans ⟨rfl, rfl, rfl, ?_, fun k hk => setRow_other _ _ _ _ (by omega)⟩
    rw [setRow_size]
    exact Nat.le_refl _
set_option maxRecDepth 100000 in
set_option maxHeartbeats 1000000 in
theorem h_sh1 (w : World) : Calls Tryd.prog 29 #[.int .i64 1] w fun e w' => e = .returned (.tuple #[.agg #[.string ⟨#[116, 111, 107, 101, 110]⟩, .bool true, .int .i64 17, .int .i64 17], .bool true]) ∧ Below w.heap.size w w' := by
  obtain ⟨W1, hW1, hc1, hc0, hf0, hb⟩ := h_new w #[.string ⟨#[]⟩, .bool false, .int .i64 0, .int .i64 0] h_zs h_shs 56 74
  have x0 := hc0 0
  have x1 := hc0 1
  have x2 := hc0 2
  have x3 := hc0 3
  have y0 := hf0 0
  have y1 := hf0 1
  have y2 := hf0 2
  have y3 := hf0 3
  have l0 := hc1 4
  have l1 := hc1 5
  have l2 := hc1 6
  have l3 := hc1 7
  rw [show h_shs[4]? = some (.string ⟨#[116, 111, 107, 101, 110]⟩) from rfl] at l0
  rw [show h_shs[5]? = some (.bool true) from rfl] at l1
  rw [show h_shs[6]? = some (.int .i64 17) from rfl] at l2
  rw [show h_shs[7]? = some (.int .i64 17) from rfl] at l3
  simp only [List.getElem?_toArray, List.getElem?_cons_zero, List.getElem?_cons_succ] at x0 x1 x2 x3
  have HB := Aside0.mk hb
  have HR := Aside0.mk (h_row w (.cells #[.string ⟨#[]⟩, .bool false, .int .i64 0, .int .i64 0] 56) h_zs h_shs 74)
  have HW := Aside0.mk hW1
  clear hc1 hc0 hf0 hb hW1
  go_enter Tryd.func29, Tryd.ntmps29
  go_wp2_with (first | ((with_reducible refine gate_dst (N := 10) rfl ?_); refine h_built rfl 74 #[(1, .tmp 5), (2, .tmp 6), (3, .tmp 7), (4, .tmp 8), (5, .tmp 9)] rfl h_shs h_sh_built ?_) | ((with_reducible refine gate_store (t := 74) (p := 4) rfl ?_); refine wpList_store_row rfl 74 (.tmp 4) (.tmp 10) rfl (w.heap.size + 1) h_shs rfl rfl 74 h_zs HR.out (by kernel_rfl) (by kernel_rfl) (by kernel_rfl) ?_; refine (congrArg (fun W => wpList Tryd.prog _ _ _ _ W) HW.out).mpr ?_; clear HR HW))
  exact bodyPost_ret (v := .tuple #[.agg #[.string ⟨#[116, 111, 107, 101, 110]⟩, .bool true, .int .i64 17, .int .i64 17], .bool true]) (by simp [results, Tryd.results29, go_sem, x0, x1, x2, x3]) rfl ⟨rfl, (((HB.out.setCell (Nat.le_refl _) _).setCell (Nat.le_refl _) _).setCell (Nat.le_refl _) _).setCell (Nat.le_refl _) _⟩
set_option maxRecDepth 100000 in
set_option maxHeartbeats 1000000 in
theorem h_sh2 (w : World) : Calls Tryd.prog 29 #[.int .i64 2] w fun e w' => e = .returned (.tuple #[.agg #[.string ⟨#[112, 111, 108, 108]⟩, .bool true, .int .i64 17, .int .i64 17], .bool true]) ∧ Below w.heap.size w w' := by
  obtain ⟨W1, hW1, hc1, hc0, hf0, hb⟩ := h_new w #[.string ⟨#[]⟩, .bool false, .int .i64 0, .int .i64 0] h_zs h_shs 56 74
  have x0 := hc0 0
  have x1 := hc0 1
  have x2 := hc0 2
  have x3 := hc0 3
  have y0 := hf0 0
  have y1 := hf0 1
  have y2 := hf0 2
  have y3 := hf0 3
  have l0 := hc1 8
  have l1 := hc1 9
  have l2 := hc1 10
  have l3 := hc1 11
  rw [show h_shs[8]? = some (.string ⟨#[112, 111, 108, 108]⟩) from rfl] at l0
  rw [show h_shs[9]? = some (.bool true) from rfl] at l1
  rw [show h_shs[10]? = some (.int .i64 17) from rfl] at l2
  rw [show h_shs[11]? = some (.int .i64 17) from rfl] at l3
  simp only [List.getElem?_toArray, List.getElem?_cons_zero, List.getElem?_cons_succ] at x0 x1 x2 x3
  have HB := Aside0.mk hb
  have HR := Aside0.mk (h_row w (.cells #[.string ⟨#[]⟩, .bool false, .int .i64 0, .int .i64 0] 56) h_zs h_shs 74)
  have HW := Aside0.mk hW1
  clear hc1 hc0 hf0 hb hW1
  go_enter Tryd.func29, Tryd.ntmps29
  go_wp2_with (first | ((with_reducible refine gate_dst (N := 10) rfl ?_); refine h_built rfl 74 #[(1, .tmp 5), (2, .tmp 6), (3, .tmp 7), (4, .tmp 8), (5, .tmp 9)] rfl h_shs h_sh_built ?_) | ((with_reducible refine gate_store (t := 74) (p := 4) rfl ?_); refine wpList_store_row rfl 74 (.tmp 4) (.tmp 10) rfl (w.heap.size + 1) h_shs rfl rfl 74 h_zs HR.out (by kernel_rfl) (by kernel_rfl) (by kernel_rfl) ?_; refine (congrArg (fun W => wpList Tryd.prog _ _ _ _ W) HW.out).mpr ?_; clear HR HW))
  exact bodyPost_ret (v := .tuple #[.agg #[.string ⟨#[112, 111, 108, 108]⟩, .bool true, .int .i64 17, .int .i64 17], .bool true]) (by simp [results, Tryd.results29, go_sem, x0, x1, x2, x3]) rfl ⟨rfl, (((HB.out.setCell (Nat.le_refl _) _).setCell (Nat.le_refl _) _).setCell (Nat.le_refl _) _).setCell (Nat.le_refl _) _⟩
set_option maxRecDepth 100000 in
set_option maxHeartbeats 1000000 in
theorem h_sh3 (w : World) : Calls Tryd.prog 29 #[.int .i64 3] w fun e w' => e = .returned (.tuple #[.agg #[.string ⟨#[115, 116, 97, 116, 117, 115]⟩, .bool true, .int .i64 23, .int .i64 23], .bool true]) ∧ Below w.heap.size w w' := by
  obtain ⟨W1, hW1, hc1, hc0, hf0, hb⟩ := h_new w #[.string ⟨#[]⟩, .bool false, .int .i64 0, .int .i64 0] h_zs h_shs 56 74
  have x0 := hc0 0
  have x1 := hc0 1
  have x2 := hc0 2
  have x3 := hc0 3
  have y0 := hf0 0
  have y1 := hf0 1
  have y2 := hf0 2
  have y3 := hf0 3
  have l0 := hc1 12
  have l1 := hc1 13
  have l2 := hc1 14
  have l3 := hc1 15
  rw [show h_shs[12]? = some (.string ⟨#[115, 116, 97, 116, 117, 115]⟩) from rfl] at l0
  rw [show h_shs[13]? = some (.bool true) from rfl] at l1
  rw [show h_shs[14]? = some (.int .i64 23) from rfl] at l2
  rw [show h_shs[15]? = some (.int .i64 23) from rfl] at l3
  simp only [List.getElem?_toArray, List.getElem?_cons_zero, List.getElem?_cons_succ] at x0 x1 x2 x3
  have HB := Aside0.mk hb
  have HR := Aside0.mk (h_row w (.cells #[.string ⟨#[]⟩, .bool false, .int .i64 0, .int .i64 0] 56) h_zs h_shs 74)
  have HW := Aside0.mk hW1
  clear hc1 hc0 hf0 hb hW1
  go_enter Tryd.func29, Tryd.ntmps29
  go_wp2_with (first | ((with_reducible refine gate_dst (N := 10) rfl ?_); refine h_built rfl 74 #[(1, .tmp 5), (2, .tmp 6), (3, .tmp 7), (4, .tmp 8), (5, .tmp 9)] rfl h_shs h_sh_built ?_) | ((with_reducible refine gate_store (t := 74) (p := 4) rfl ?_); refine wpList_store_row rfl 74 (.tmp 4) (.tmp 10) rfl (w.heap.size + 1) h_shs rfl rfl 74 h_zs HR.out (by kernel_rfl) (by kernel_rfl) (by kernel_rfl) ?_; refine (congrArg (fun W => wpList Tryd.prog _ _ _ _ W) HW.out).mpr ?_; clear HR HW))
  exact bodyPost_ret (v := .tuple #[.agg #[.string ⟨#[115, 116, 97, 116, 117, 115]⟩, .bool true, .int .i64 23, .int .i64 23], .bool true]) (by simp [results, Tryd.results29, go_sem, x0, x1, x2, x3]) rfl ⟨rfl, (((HB.out.setCell (Nat.le_refl _) _).setCell (Nat.le_refl _) _).setCell (Nat.le_refl _) _).setCell (Nat.le_refl _) _⟩
set_option maxRecDepth 100000 in
set_option maxHeartbeats 1000000 in
theorem h_sh4 (w : World) : Calls Tryd.prog 29 #[.int .i64 4] w fun e w' => e = .returned (.tuple #[.agg #[.string ⟨#[100, 97, 116, 97]⟩, .bool false, .int .i64 27, .int .i64 42], .bool true]) ∧ Below w.heap.size w w' := by
  obtain ⟨W1, hW1, hc1, hc0, hf0, hb⟩ := h_new w #[.string ⟨#[]⟩, .bool false, .int .i64 0, .int .i64 0] h_zs h_shs 56 74
  have x0 := hc0 0
  have x1 := hc0 1
  have x2 := hc0 2
  have x3 := hc0 3
  have y0 := hf0 0
  have y1 := hf0 1
  have y2 := hf0 2
  have y3 := hf0 3
  have l0 := hc1 16
  have l1 := hc1 17
  have l2 := hc1 18
  have l3 := hc1 19
  rw [show h_shs[16]? = some (.string ⟨#[100, 97, 116, 97]⟩) from rfl] at l0
  rw [show h_shs[17]? = some (.bool false) from rfl] at l1
  rw [show h_shs[18]? = some (.int .i64 27) from rfl] at l2
  rw [show h_shs[19]? = some (.int .i64 42) from rfl] at l3
  simp only [List.getElem?_toArray, List.getElem?_cons_zero, List.getElem?_cons_succ] at x0 x1 x2 x3
  have HB := Aside0.mk hb
  have HR := Aside0.mk (h_row w (.cells #[.string ⟨#[]⟩, .bool false, .int .i64 0, .int .i64 0] 56) h_zs h_shs 74)
  have HW := Aside0.mk hW1
  clear hc1 hc0 hf0 hb hW1
  go_enter Tryd.func29, Tryd.ntmps29
  go_wp2_with (first | ((with_reducible refine gate_dst (N := 10) rfl ?_); refine h_built rfl 74 #[(1, .tmp 5), (2, .tmp 6), (3, .tmp 7), (4, .tmp 8), (5, .tmp 9)] rfl h_shs h_sh_built ?_) | ((with_reducible refine gate_store (t := 74) (p := 4) rfl ?_); refine wpList_store_row rfl 74 (.tmp 4) (.tmp 10) rfl (w.heap.size + 1) h_shs rfl rfl 74 h_zs HR.out (by kernel_rfl) (by kernel_rfl) (by kernel_rfl) ?_; refine (congrArg (fun W => wpList Tryd.prog _ _ _ _ W) HW.out).mpr ?_; clear HR HW))
  exact bodyPost_ret (v := .tuple #[.agg #[.string ⟨#[100, 97, 116, 97]⟩, .bool false, .int .i64 27, .int .i64 42], .bool true]) (by simp [results, Tryd.results29, go_sem, x0, x1, x2, x3]) rfl ⟨rfl, (((HB.out.setCell (Nat.le_refl _) _).setCell (Nat.le_refl _) _).setCell (Nat.le_refl _) _).setCell (Nat.le_refl _) _⟩
set_option maxRecDepth 100000 in
set_option maxHeartbeats 1000000 in
theorem h_sh5 (w : World) : Calls Tryd.prog 29 #[.int .i64 5] w fun e w' => e = .returned (.tuple #[.agg #[.string ⟨#[108, 101, 97, 118, 101]⟩, .bool true, .int .i64 17, .int .i64 17], .bool true]) ∧ Below w.heap.size w w' := by
  obtain ⟨W1, hW1, hc1, hc0, hf0, hb⟩ := h_new w #[.string ⟨#[]⟩, .bool false, .int .i64 0, .int .i64 0] h_zs h_shs 56 74
  have x0 := hc0 0
  have x1 := hc0 1
  have x2 := hc0 2
  have x3 := hc0 3
  have y0 := hf0 0
  have y1 := hf0 1
  have y2 := hf0 2
  have y3 := hf0 3
  have l0 := hc1 20
  have l1 := hc1 21
  have l2 := hc1 22
  have l3 := hc1 23
  rw [show h_shs[20]? = some (.string ⟨#[108, 101, 97, 118, 101]⟩) from rfl] at l0
  rw [show h_shs[21]? = some (.bool true) from rfl] at l1
  rw [show h_shs[22]? = some (.int .i64 17) from rfl] at l2
  rw [show h_shs[23]? = some (.int .i64 17) from rfl] at l3
  simp only [List.getElem?_toArray, List.getElem?_cons_zero, List.getElem?_cons_succ] at x0 x1 x2 x3
  have HB := Aside0.mk hb
  have HR := Aside0.mk (h_row w (.cells #[.string ⟨#[]⟩, .bool false, .int .i64 0, .int .i64 0] 56) h_zs h_shs 74)
  have HW := Aside0.mk hW1
  clear hc1 hc0 hf0 hb hW1
  go_enter Tryd.func29, Tryd.ntmps29
  go_wp2_with (first | ((with_reducible refine gate_dst (N := 10) rfl ?_); refine h_built rfl 74 #[(1, .tmp 5), (2, .tmp 6), (3, .tmp 7), (4, .tmp 8), (5, .tmp 9)] rfl h_shs h_sh_built ?_) | ((with_reducible refine gate_store (t := 74) (p := 4) rfl ?_); refine wpList_store_row rfl 74 (.tmp 4) (.tmp 10) rfl (w.heap.size + 1) h_shs rfl rfl 74 h_zs HR.out (by kernel_rfl) (by kernel_rfl) (by kernel_rfl) ?_; refine (congrArg (fun W => wpList Tryd.prog _ _ _ _ W) HW.out).mpr ?_; clear HR HW))
  exact bodyPost_ret (v := .tuple #[.agg #[.string ⟨#[108, 101, 97, 118, 101]⟩, .bool true, .int .i64 17, .int .i64 17], .bool true]) (by simp [results, Tryd.results29, go_sem, x0, x1, x2, x3]) rfl ⟨rfl, (((HB.out.setCell (Nat.le_refl _) _).setCell (Nat.le_refl _) _).setCell (Nat.le_refl _) _).setCell (Nat.le_refl _) _⟩
set_option maxRecDepth 100000 in
set_option maxHeartbeats 1000000 in
theorem h_shlo (a : Int) (w : World) (ha : a < 1) : Calls Tryd.prog 29 #[.int .i64 a] w fun e w' => e = .returned (.tuple #[.agg #[.string ⟨#[63]⟩, .bool true, .int .i64 0, .int .i64 0], .bool false]) ∧ Below w.heap.size w w' := by
  have d1 := decide_eq_true ha
  clear ha
  obtain ⟨W1, hW1, hc1, hc0, hf0, hb⟩ := h_new w #[.string ⟨#[]⟩, .bool false, .int .i64 0, .int .i64 0] h_zs h_shs 56 74
  have x0 := hc0 0
  have x1 := hc0 1
  have x2 := hc0 2
  have x3 := hc0 3
  have y0 := hf0 0
  have y1 := hf0 1
  have y2 := hf0 2
  have y3 := hf0 3
  simp only [List.getElem?_toArray, List.getElem?_cons_zero, List.getElem?_cons_succ] at x0 x1 x2 x3
  have HB := Aside0.mk hb
  have HR := Aside0.mk (h_row w (.cells #[.string ⟨#[]⟩, .bool false, .int .i64 0, .int .i64 0] 56) h_zs h_shs 74)
  have HW := Aside0.mk hW1
  clear hc1 hc0 hf0 hb hW1
  go_enter Tryd.func29, Tryd.ntmps29
  go_wp2_with (first | ((with_reducible refine gate_dst (N := 10) rfl ?_); refine h_built rfl 74 #[(1, .tmp 5), (2, .tmp 6), (3, .tmp 7), (4, .tmp 8), (5, .tmp 9)] rfl h_shs h_sh_built ?_) | ((with_reducible refine gate_store (t := 74) (p := 4) rfl ?_); refine wpList_store_row rfl 74 (.tmp 4) (.tmp 10) rfl (w.heap.size + 1) h_shs rfl rfl 74 h_zs HR.out (by kernel_rfl) (by kernel_rfl) (by kernel_rfl) ?_; refine (congrArg (fun W => wpList Tryd.prog _ _ _ _ W) HW.out).mpr ?_; clear HR HW))
  exact bodyPost_ret (v := .tuple #[.agg #[.string ⟨#[63]⟩, .bool true, .int .i64 0, .int .i64 0], .bool false]) (by simp [results, Tryd.results29, go_sem, x0, x1, x2, x3]) rfl ⟨rfl, (((HB.out.setCell (Nat.le_refl _) _).setCell (Nat.le_refl _) _).setCell (Nat.le_refl _) _).setCell (Nat.le_refl _) _⟩
set_option maxRecDepth 100000 in
set_option maxHeartbeats 1000000 in
theorem h_shhi (a : Int) (w : World) (ha : 6 ≤ a) : Calls Tryd.prog 29 #[.int .i64 a] w fun e w' => e = .returned (.tuple #[.agg #[.string ⟨#[63]⟩, .bool true, .int .i64 0, .int .i64 0], .bool false]) ∧ Below w.heap.size w w' := by
  have d0 : decide (a < 1) = false := decide_eq_false (by omega)
  have d1 : decide (6 ≤ a) = true := decide_eq_true ha
  clear ha
  obtain ⟨W1, hW1, hc1, hc0, hf0, hb⟩ := h_new w #[.string ⟨#[]⟩, .bool false, .int .i64 0, .int .i64 0] h_zs h_shs 56 74
  have x0 := hc0 0
  have x1 := hc0 1
  have x2 := hc0 2
  have x3 := hc0 3
  have y0 := hf0 0
  have y1 := hf0 1
  have y2 := hf0 2
  have y3 := hf0 3
  simp only [List.getElem?_toArray, List.getElem?_cons_zero, List.getElem?_cons_succ] at x0 x1 x2 x3
  have HB := Aside0.mk hb
  have HR := Aside0.mk (h_row w (.cells #[.string ⟨#[]⟩, .bool false, .int .i64 0, .int .i64 0] 56) h_zs h_shs 74)
  have HW := Aside0.mk hW1
  clear hc1 hc0 hf0 hb hW1
  go_enter Tryd.func29, Tryd.ntmps29
  go_wp2_with (first | ((with_reducible refine gate_dst (N := 10) rfl ?_); refine h_built rfl 74 #[(1, .tmp 5), (2, .tmp 6), (3, .tmp 7), (4, .tmp 8), (5, .tmp 9)] rfl h_shs h_sh_built ?_) | ((with_reducible refine gate_store (t := 74) (p := 4) rfl ?_); refine wpList_store_row rfl 74 (.tmp 4) (.tmp 10) rfl (w.heap.size + 1) h_shs rfl rfl 74 h_zs HR.out (by kernel_rfl) (by kernel_rfl) (by kernel_rfl) ?_; refine (congrArg (fun W => wpList Tryd.prog _ _ _ _ W) HW.out).mpr ?_; clear HR HW))
  exact bodyPost_ret (v := .tuple #[.agg #[.string ⟨#[63]⟩, .bool true, .int .i64 0, .int .i64 0], .bool false]) (by simp [results, Tryd.results29, go_sem, x0, x1, x2, x3]) rfl ⟨rfl, (((HB.out.setCell (Nat.le_refl _) _).setCell (Nat.le_refl _) _).setCell (Nat.le_refl _) _).setCell (Nat.le_refl _) _⟩
def frame_shapes.f (a0 : Int) : Option (ByteArray × Bool × Int × Int × Bool) := some (if a0 = 1 then (⟨#[116, 111, 107, 101, 110]⟩, true, 17, 17, true) else if a0 = 2 then (⟨#[112, 111, 108, 108]⟩, true, 17, 17, true) else if a0 = 3 then (⟨#[115, 116, 97, 116, 117, 115]⟩, true, 23, 23, true) else if a0 = 4 then (⟨#[100, 97, 116, 97]⟩, false, 27, 42, true) else if a0 = 5 then (⟨#[108, 101, 97, 118, 101]⟩, true, 17, 17, true) else (⟨#[63]⟩, true, 0, 0, false))
theorem frame_shapes.calls (a0 : Int) (r1 : ByteArray) (r2 : Bool) (r3 r4 : Int) (r5 : Bool) (w : World) (h : frame_shapes.f a0 = some (r1, r2, r3, r4, r5)) :
    Calls Tryd.prog 29 #[.int .i64 a0] w fun e w' => e = .returned (.tuple #[.agg #[.string r1, .bool r2, .int .i64 r3, .int .i64 r4], .bool r5]) ∧ Below w.heap.size w w' := by
  unfold frame_shapes.f at h
  have h := Option.some.inj h
  by_cases h0 : a0 < 1
  · rw [if_neg (by omega), if_neg (by omega), if_neg (by omega), if_neg (by omega), if_neg (by omega)] at h
    obtain ⟨rfl, rfl, rfl, rfl, rfl⟩ : _ ∧ _ ∧ _ ∧ _ ∧ _ := by simpa using h
    exact h_shlo a0 w h0
  · by_cases h6 : 6 ≤ a0
    · rw [if_neg (by omega), if_neg (by omega), if_neg (by omega), if_neg (by omega), if_neg (by omega)] at h
      obtain ⟨rfl, rfl, rfl, rfl, rfl⟩ : _ ∧ _ ∧ _ ∧ _ ∧ _ := by simpa using h
      exact h_shhi a0 w h6
    · obtain rfl | rfl | rfl | rfl | rfl : a0 = 1 ∨ a0 = 2 ∨ a0 = 3 ∨ a0 = 4 ∨ a0 = 5 := by omega
      · obtain ⟨rfl, rfl, rfl, rfl, rfl⟩ : _ ∧ _ ∧ _ ∧ _ ∧ _ := by simpa using h
        exact h_sh1 w
      · obtain ⟨rfl, rfl, rfl, rfl, rfl⟩ : _ ∧ _ ∧ _ ∧ _ ∧ _ := by simpa using h
        exact h_sh2 w
      · obtain ⟨rfl, rfl, rfl, rfl, rfl⟩ : _ ∧ _ ∧ _ ∧ _ ∧ _ := by simpa using h
        exact h_sh3 w
      · obtain ⟨rfl, rfl, rfl, rfl, rfl⟩ : _ ∧ _ ∧ _ ∧ _ ∧ _ := by simpa using h
        exact h_sh4 w
      · obtain ⟨rfl, rfl, rfl, rfl, rfl⟩ : _ ∧ _ ∧ _ ∧ _ ∧ _ := by simpa using h
        exact h_sh5 w


end Go.Proofs.YtkcaifpmceoflaaDoor.Own

/- Contracts of functions of the given program, each under the conditions that it states (a run of the kit's printer, by hprint.py, with contracts of our own among its functions). -/
import Derived.Test.YtojcflaghicdiaaOwnx0
namespace Go.Proofs.Ytojcflaghicdiaa.Own
open Go.RowKit Go.Proofs.YtojcflaghicdiaaW.PrintWords Go.Proofs.YtojcflaghicdiaaW.PrintLast Go.Proofs.YtojcflaghicdiaaW.PrintMore
attribute [local go_sem] max2_int min2_int max_two min_two max_three min_three max_four min_four   -- for this text's walks alone
set_option linter.unusedVariables false
set_option linter.unusedSimpArgs false

/-! ### bytes in memory, by hand -/
theorem h_ret_int {k : IntKind} {a b : Int} (h : a = b) : Ending.returned (.int k a) = .returned (.int k b) := by rw [h]
theorem h_ret_str {a b : ByteArray} (h : a = b) : Ending.returned (.string a) = .returned (.string b) := by rw [h]
def bv (x : UInt8) : Value := .int .u8 (x.toNat : Int)
/-- The bytes xs lie in block g from its begin on, and may be written. -/
def Bts (w : World) (g : Nat) (xs : List UInt8) : Prop := ∀ j x, xs[j]? = some x → w.cell? ⟨g, j, none⟩ = some (bv x) ∧ w.frozen? ⟨g, j, none⟩ = false
/-- v written over b from place o on, as far as b goes. -/
def over (b : List UInt8) (o : Nat) (v : List UInt8) : List UInt8 := b.take o ++ (v.take (b.length - o) ++ b.drop (o + min v.length (b.length - o)))
def putl (b : List UInt8) (at_ : Int) (v : List UInt8) : List UInt8 :=
  if at_ < 0 then (if (v.length : Int) ≤ -at_ then b else over b 0 (v.drop (-at_).toNat)) else if at_ < (b.length : Int) then over b at_.toNat v else b
theorem over_len (b : List UInt8) (o : Nat) (v : List UInt8) (h : o ≤ b.length) : (over b o v).length = b.length := by simp [over]; omega
theorem putl_len (b : List UInt8) (at_ : Int) (v : List UInt8) : (putl b at_ v).length = b.length := by
  unfold putl
  split
  · split
    · rfl
    · exact over_len _ _ _ (Nat.zero_le _)
  · split
    · exact over_len _ _ _ (by omega)
    · rfl
theorem over_get (b : List UInt8) (o : Nat) (v : List UInt8) (h : o ≤ b.length) (j : Nat) : (over b o v)[j]? = if o ≤ j ∧ j < o + min v.length (b.length - o) then v[j - o]? else b[j]? := by
  unfold over
  by_cases h1 : j < o
  · rw [if_neg (by omega), List.getElem?_append_left (by simp; omega), List.getElem?_take_of_lt h1]
  · rw [List.getElem?_append_right (by simp; omega)]
    by_cases h2 : j < o + min v.length (b.length - o)
    · rw [if_pos ⟨by omega, h2⟩, List.getElem?_append_left (by simp; omega), List.getElem?_take_of_lt (by simp; omega)]
      simp
      congr 1
      omega
    · rw [if_neg (by omega), List.getElem?_append_right (by simp; omega), List.getElem?_drop]
      congr 1
      simp
      omega
theorem run_copy_cells {P : Program} (w : World) (dT sT ty elem : TypeId) (b o dLen dCap : Nat) (t : ByteArray)
    (hu : P.underlying dT = some (.slice elem)) (hz : ∀ w, (Go.sizeOf elem).run P w = .ok 1 w)
    (hc : ∀ j, j < min t.size dLen → (w.cell? ⟨b, o + j, none⟩).isSome = true) (hf : ∀ j, j < min t.size dLen → w.frozen? ⟨b, o + j, none⟩ = false) :
    (Builtin.copy_ #[dT, sT] ty #[.slice (some ⟨b, o, none⟩) dLen dCap, .string t]).run P w = .ok (goInt (min t.size dLen : Nat)) (w.setCells b o ((t.data.toList.take (min t.size dLen)).map bv)) := by
  have hl : ((t.data.toList.take (min t.size dLen)).map bv).length = min t.size dLen := by
    rw [List.length_map, List.length_take, data_length]; omega
  have hst := run_storeCells_cells (P := P) b o ((t.data.toList.take (min t.size dLen)).map bv) 0 w (by rw [hl]; simpa using hc) (by rw [hl]; simpa using hf) (by
    intro v hv
    obtain ⟨x, _, rfl⟩ := List.mem_map.1 hv
    rfl)
  have hm : Nat.min t.size dLen = min t.size dLen := rfl
  simp [Builtin.copy_, run_underlying hu, Builtin.lenOf, Builtin.firstCells, hz, hm]
  rw [show (List.map (fun b : UInt8 => Value.int IntKind.u8 (b.toNat : Int)) t.data.toList) = t.data.toList.map bv from rfl, ← List.map_take, hst]
  simp [Result.andThen]
theorem bts_setCells {w : World} {g : Nat} {xs : List UInt8} (h : Bts w g xs) (o : Nat) (v : List UInt8) (ho : o ≤ xs.length) : Bts (w.setCells g o ((v.take (min v.length (xs.length - o))).map bv)) g (over xs o v) := by
  intro j x hj
  have hl : ((v.take (min v.length (xs.length - o))).map bv).length = min v.length (xs.length - o) := by rw [List.length_map, List.length_take]; omega
  have hlen := over_len xs o v ho
  have hjl : j < (over xs o v).length := (List.getElem?_eq_some_iff.1 hj).1
  have hx0 : xs[j]? = some (xs[j]'(by omega)) := List.getElem?_eq_getElem (by omega)
  have hfr : (w.setCells g o ((v.take (min v.length (xs.length - o))).map bv)).frozen? ⟨g, j, none⟩ = false := by
    rw [World.frozen?_setCells]; exact (h j _ hx0).2
  refine ⟨?_, hfr⟩
  rw [over_get xs o v ho] at hj
  by_cases hin : o ≤ j ∧ j < o + min v.length (xs.length - o)
  · rw [if_pos hin] at hj
    have := World.cell?_setCells_in g ((v.take (min v.length (xs.length - o))).map bv) o w (fun k hk => by
      rw [hl] at hk
      rw [(h (o + k) (xs[o + k]'(by omega)) (List.getElem?_eq_getElem (by omega))).1]; rfl) (j - o) (by rw [hl]; omega)
    rw [show o + (j - o) = j by omega] at this
    rw [this]
    congr 1
    simp only [List.getElem_map, List.getElem_take]
    obtain ⟨hh, e⟩ := List.getElem?_eq_some_iff.1 hj
    rw [e]
  · rw [if_neg hin] at hj
    rw [World.cell?_setCells_out g _ o w ⟨g, j, none⟩ (fun _ _ => by rw [hl]; show j < o ∨ o + min v.length (xs.length - o) ≤ j; omega)]
    exact (h j x hj).1
theorem setCells_size (g : Nat) : ∀ (vs : List Value) (o : Nat) (w : World), (w.setCells g o vs).heap.size = w.heap.size
  | [], _, _ => rfl
  | v :: r, o, w => by
    rw [show w.setCells g o (v :: r) = (w.setCell ⟨g, o, none⟩ v).setCells g (o + 1) r from rfl, setCells_size g r]
    simp
set_option maxHeartbeats 800000 in
theorem put_calls (g c : Nat) (xs : List UInt8) (at_ : Int) (v : ByteArray) (w : World) (hb : Bts w g xs) (hg : g < w.heap.size) (hn : xs.length ≤ 1000000) (hv : v.size ≤ 140737488351232) (h0 : -9223372036854775808 ≤ at_) (h1 : at_ ≤ 9223372036854775807) (hc : xs.length ≤ c) :
    Calls Try.prog 16 #[.slice (some ⟨g, 0, none⟩) xs.length c, .int .i64 at_, .string v] w fun e w' => e = .returned (.tuple #[]) ∧ Bts w' g (putl xs at_ v.data.toList) ∧ Below g w w' ∧ w'.heap.size = w.heap.size := by
  have hsz : ∀ w, (Go.sizeOf 5).run Try.prog w = .ok 1 w := fun w => by kernel_rfl
  have hvl : v.data.toList.length = v.size := data_length v
  by_cases hneg : at_ < 0
  · by_cases hout : (v.size : Int) ≤ -at_
    · have hp : putl xs at_ v.data.toList = xs := by unfold putl; rw [if_pos hneg, if_pos (by omega)]
      rw [hp]
      have hb1 : decide (at_ < 0) = true := decide_eq_true hneg
      have HP := Aside0.mk hp
      have HBt := Aside0.mk hb
      clear hp hb
      by_cases hmin : at_ = -9223372036854775808
      · have hw : decide (wrap64 (-at_) < 0) = true := decide_eq_true (by unfold wrap64; omega)
        clear hmin hout
        go_enter Try.func16, Try.ntmps16
        go_wp2_with fail
        first | go_end0 | ((try simp only [Exit.inBlock, Exit.then]); refine bodyPost_ret (results_none rfl _ _ _) rfl ?_)
        exact ⟨rfl, HBt.out, Below.refl _ _, rfl⟩
      · have h2 : -9223372036854775807 ≤ at_ := by omega
        clear hmin
        have hw : decide ((v.size : Int) ≤ -at_) = true := decide_eq_true hout
        have hb2 : decide (0 < at_) = false := decide_eq_false (by omega)
        go_enter Try.func16, Try.ntmps16
        go_wp2_with fail
        first | go_end0 | ((try simp only [Exit.inBlock, Exit.then]); refine bodyPost_ret (results_none rfl _ _ _) rfl ?_)
        exact ⟨rfl, HBt.out, Below.refl _ _, rfl⟩
    · have hp : putl xs at_ v.data.toList = over xs 0 (v.data.toList.drop (-at_).toNat) := by unfold putl; rw [if_pos hneg, if_neg (by omega)]
      rw [hp]
      have hb1 : decide (at_ < 0) = true := decide_eq_true hneg
      have h2 : -9223372036854775807 ≤ at_ := by omega
      have h3 : -at_ < (v.size : Int) := by omega
      have hw : decide ((v.size : Int) ≤ -at_) = false := decide_eq_false hout
      have HP := Aside0.mk hp
      have HBt := Aside0.mk hb
      clear hp hb hout
      have hb2 : decide (0 < at_) = false := decide_eq_false (by omega)
      have hpl := putl_len xs at_ v.data.toList
      rw [HP.out] at hpl
      have hex : (v.extract (-at_).toNat v.size).data.toList = v.data.toList.drop (-at_).toNat := by
        simp
        exact List.take_of_length_le (by rw [List.length_drop, data_length]; exact Nat.le_refl _)
      have hes : (v.extract (-at_).toNat v.size).size = (v.data.toList.drop (-at_).toNat).length := by rw [← data_length, hex]
      have hcp := run_copy_cells (P := Try.prog) w 37 9 3 5 g 0 xs.length c (v.extract (-at_).toNat v.size) Try.underlying37 hsz (fun j hj => by
        rw [Nat.zero_add, (HBt.out j (xs[j]'(by omega)) (List.getElem?_eq_getElem (by omega))).1]; rfl) (fun j hj => by
        rw [Nat.zero_add]; exact (HBt.out j (xs[j]'(by omega)) (List.getElem?_eq_getElem (by omega))).2)
      rw [hex, hes] at hcp
      have hpost : Bts (w.setCells g 0 ((List.take (min (v.data.toList.drop (-at_).toNat).length xs.length) (v.data.toList.drop (-at_).toNat)).map bv)) g (over xs 0 (v.data.toList.drop (-at_).toNat)) :=
        bts_setCells HBt.out 0 _ (Nat.zero_le _)
      obtain ⟨W, hW⟩ : ∃ W, W = w.setCells g 0 ((List.take (min (v.data.toList.drop (-at_).toNat).length xs.length) (v.data.toList.drop (-at_).toNat)).map bv) := ⟨_, rfl⟩
      rw [← hW] at hcp hpost
      have hbW : Below g w W := by rw [hW]; exact below_setCells (Nat.le_refl _) _ _ _ (Below.refl _ _)
      have hsW : W.heap.size = w.heap.size := by rw [hW]; exact setCells_size _ _ _ _
      have HE := Aside0.mk hpost
      have HBW := Aside0.mk hbW
      have HSW := Aside0.mk hsW
      clear hW hpost hbW hsW hex hes hpl
      by_cases h4 : 0 < xs.length
      · go_enter Try.func16, Try.ntmps16
        go_wp2_with fail
        first | go_end0 | ((try simp only [Exit.inBlock, Exit.then]); refine bodyPost_ret (results_none rfl _ _ _) rfl ?_)
        exact ⟨rfl, HE.out, HBW.out, HSW.out⟩
      · have h5 : xs.length = 0 := by omega
        have h6 : xs = [] := List.eq_nil_of_length_eq_zero h5
        subst h6
        have h7 : over [] 0 (v.data.toList.drop (-at_).toNat) = [] := List.eq_nil_of_length_eq_zero (over_len _ _ _ (Nat.le_refl _))
        have H7 := Aside0.mk h7
        clear h5 h7 hcp
        go_enter Try.func16, Try.ntmps16
        go_wp2_with fail
        first | go_end0 | ((try simp only [Exit.inBlock, Exit.then]); refine bodyPost_ret (results_none rfl _ _ _) rfl ?_)
        exact ⟨rfl, by rw [H7.out]; exact HBt.out, Below.refl _ _, rfl⟩
  · by_cases hlt : at_ < (xs.length : Int)
    · have hp : putl xs at_ v.data.toList = over xs at_.toNat v.data.toList := by unfold putl; rw [if_neg hneg, if_pos hlt]
      rw [hp]
      have h2 : 0 ≤ at_ := by omega
      have HBt := Aside0.mk hb
      have hcp := run_copy_cells (P := Try.prog) w 37 9 3 5 g at_.toNat (xs.length - at_.toNat) (c - at_.toNat) v Try.underlying37 hsz (fun j hj => by
        rw [(HBt.out (at_.toNat + j) (xs[at_.toNat + j]'(by omega)) (List.getElem?_eq_getElem (by omega))).1]; rfl) (fun j hj => 
        (HBt.out (at_.toNat + j) (xs[at_.toNat + j]'(by omega)) (List.getElem?_eq_getElem (by omega))).2)
      have hpost : Bts (w.setCells g at_.toNat ((List.take (min v.data.toList.length (xs.length - at_.toNat)) v.data.toList).map bv)) g (over xs at_.toNat v.data.toList) :=
        bts_setCells HBt.out at_.toNat _ (by omega)
      rw [hvl] at hpost
      obtain ⟨W, hW⟩ : ∃ W, W = w.setCells g at_.toNat ((List.take (min v.size (xs.length - at_.toNat)) v.data.toList).map bv) := ⟨_, rfl⟩
      rw [← hW] at hcp hpost
      have hbW : Below g w W := by rw [hW]; exact below_setCells (Nat.le_refl _) _ _ _ (Below.refl _ _)
      have hsW : W.heap.size = w.heap.size := by rw [hW]; exact setCells_size _ _ _ _
      have HE := Aside0.mk hpost
      have HBW := Aside0.mk hbW
      have HSW := Aside0.mk hsW
      clear hW hpost hbW hsW hp hb hneg
      go_enter Try.func16, Try.ntmps16
      go_wp2_with fail
      first | go_end0 | ((try simp only [Exit.inBlock, Exit.then]); refine bodyPost_ret (results_none rfl _ _ _) rfl ?_)
      exact ⟨rfl, HE.out, HBW.out, HSW.out⟩
    · have hp : putl xs at_ v.data.toList = xs := by unfold putl; rw [if_neg hneg, if_neg hlt]
      rw [hp]
      have h2 : 0 ≤ at_ := by omega
      have h3 : (xs.length : Int) ≤ at_ := by omega
      have HBt := Aside0.mk hb
      clear hp hb hneg hlt
      go_enter Try.func16, Try.ntmps16
      go_wp2_with fail
      first | go_end0 | ((try simp only [Exit.inBlock, Exit.then]); refine bodyPost_ret (results_none rfl _ _ _) rfl ?_)
      exact ⟨rfl, HBt.out, Below.refl _ _, rfl⟩
theorem bts_of_R {w : World} {base : Nat} {ok : Nat → Prop} {v : Value} {xs : List UInt8} (h : (Kd.int .u8).R 5 w base ok v (xs.map fun x => (x.toNat : Int))) {B : Nat} (hn : ∃ b, v.ownBlock = some b ∧ B ≤ b) :
    ∃ g c, v = .slice (some ⟨g, 0, none⟩) xs.length c ∧ xs.length ≤ c ∧ base ≤ g ∧ g < w.heap.size ∧ Bts w g xs := by
  obtain ⟨inner, hl, ho⟩ := Kd.R_own h
  obtain ⟨A, c, e, hlc, hC⟩ := Kd.R_reads h
  rw [List.length_map] at ho e hlc hC
  rcases ho with ⟨rfl, h0⟩ | ⟨g, cap, cur, rfl, hg, hh, hle, hm, hcs, htk⟩
  · obtain ⟨b, hb, _⟩ := hn
    simp [Value.ownBlock] at hb
  · injection e with e1 e2 e3
    subst e1
    subst e3
    by_cases h0 : xs.length = 0
    · exact ⟨g, cap, rfl, hlc, hg, blk_lt hh, fun j x hx => by
        have := (List.getElem?_eq_some_iff.1 hx).1
        omega⟩
    obtain ⟨ad, e4, hj⟩ := hC.2.2 (by omega)
    obtain rfl := Option.some.inj e4
    refine ⟨g, cap, rfl, hlc, hg, blk_lt hh, fun j x hx => ⟨?_, blk_frozen hh j⟩⟩
    obtain ⟨cs, h1, h2, h3⟩ := hj j (x.toNat : Int) (by rw [List.getElem?_map, hx]; rfl)
    have h4 : cs = [Value.int .u8 (x.toNat : Int)] := h2
    have := h3 0 (.int .u8 (x.toNat : Int)) (by rw [h4]; rfl)
    have e5 : (⟨g, 0, none⟩ : Addr).add (j * (Kd.int .u8).sz + 0) = ⟨g, j, none⟩ := by
      have : (Kd.int .u8).sz = 1 := rfl
      rw [this, Nat.mul_one, Nat.add_zero]
      cases j with
      | zero => rfl
      | succ j => simp [Addr.add]
    rw [e5] at this
    exact this
theorem bts_drew {w : World} {g : Nat} {xs : List UInt8} (h : Bts w g xs) : Bts w.drew g xs := fun j x hj => h j x hj
theorem bts_drewN {w : World} {g : Nat} {xs : List UInt8} (h : Bts w g xs) (n : Nat) : Bts (w.drewN n) g xs := fun j x hj => h j x hj
theorem strOfNums_bytes (xs : List UInt8) : strOfNums (xs.map fun x => (x.toNat : Int)) = ⟨xs.toArray⟩ := by
  unfold strOfNums
  rw [List.map_map, show ((fun n : Int => UInt8.ofNat n.toNat) ∘ fun x : UInt8 => (x.toNat : Int)) = id from by funext x; simp, List.map_id]
theorem bts_C {w : World} {g : Nat} {xs : List UInt8} (h : Bts w g xs) (hn : xs.length ≤ 1000000) : (Kd.int .u8).C w (some ⟨g, 0, none⟩) xs.length (xs.map fun x => (x.toNat : Int)) := by
  refine ⟨by simp, by omega, fun _ => ⟨_, rfl, fun j p hp => ?_⟩⟩
  rw [List.getElem?_map] at hp
  obtain ⟨x, hx, rfl⟩ := Option.map_eq_some_iff.1 hp
  refine ⟨[.int .u8 (x.toNat : Int)], rfl, rfl, fun i u hu => ?_⟩
  have hi : i = 0 := by
    have := (List.getElem?_eq_some_iff.1 hu).1
    simpa using this
  subst hi
  have e5 : (⟨g, 0, none⟩ : Addr).add (j * (Kd.int .u8).sz + 0) = ⟨g, j, none⟩ := by
    have : (Kd.int .u8).sz = 1 := rfl
    rw [this, Nat.mul_one, Nat.add_zero]
    cases j with
    | zero => rfl
    | succ j => simp [Addr.add]
  rw [e5, (h j x hx).1]
  simpa [bv] using hu
theorem bts_conv {w : World} {g c : Nat} {xs : List UInt8} (h : Bts w g xs) (hn : xs.length ≤ 1000000) : (convert 37 9 (.slice (some ⟨g, 0, none⟩) xs.length c)).run Try.prog w = .ok (.string ⟨xs.toArray⟩) w := by
  have := Kd.C_string (P := Try.prog) (src := 37) (dst := 9) (c := c) Try.underlying37 Try.underlying5 Try.underlying9 (bts_C h hn)
  rw [strOfNums_bytes] at this
  exact this

/-! ### slices.ContainsFunc with image.spot's closure, by hand -/
def pls : List S32 → Int → Int → Int
  | [], _, _ => -1
  | b :: l, id, i => if b.f0 = id then i else pls l id (i + 1)
set_option maxHeartbeats 400000 in
theorem spot_inner (x0 x1 : Int) (id : Int) (g : Nat) (w : World) (hc : w.cell? ⟨g, 0, none⟩ = some (.int .i64 id)) :
    Calls Try.prog 22 #[.agg #[.int .i64 x0, .int .i64 x1], .pointer (some ⟨g, 0, none⟩)] w fun e w' => e = .returned (.bool (x0 == id)) ∧ Below w.heap.size w w' := by
  have hu32 := Try.underlying32
  have hlt := World.block_lt_of_cell? w _ hc
  go_enter Try.func22, Try.ntmps22
  go_wp2
  go_ret
  exact ⟨rfl, (Below.refl _ _).alloc (Nat.le_refl _) _⟩
theorem pls_drop (l : List S32) (id : Int) (k : Nat) (hk : k < l.length) : pls (l.drop k) id k = if (rd_T32 l k).f0 = id then (k : Int) else pls (l.drop (k + 1)) id ((k : Int) + 1) := by
  rw [List.drop_eq_getElem_cons hk]
  unfold rd_T32
  simp [pls, List.getD, hk]
set_option maxHeartbeats 800000 in
theorem spot_index (A0 : Option Addr) (c0 : Nat) (l : List S32) (id : Int) (g : Nat) (w : World) (hr0 : Kd.C k32 w A0 l.length l) (hn : l.length ≤ 1000000) (hc : w.cell? ⟨g, 0, none⟩ = some (.int .i64 id)) :
    Calls Try.prog 24 #[.slice A0 l.length c0, .func (.func 22) #[] #[.pointer (some ⟨g, 0, none⟩)]] w fun e w' => e = .returned (.int .i64 (pls l id 0)) ∧ Below w.heap.size w w' := by
  have hu32 := Try.underlying32
  have hlt := World.block_lt_of_cell? w _ hc
  have HR0 := Aside0.mk hr0
  clear hr0
  go_enter Try.func24, Try.ntmps24
  go_wp2
  go_loopw [8] (fun i wr => ∃ k : Nat, k ≤ l.length ∧ i = .int .i64 k ∧ Aside0 (pls (l.drop k) id k = pls l id 0) ∧ Aside0 (Below w.heap.size w wr)) (fun i _ => l.length - (intOf i).toNat)
  case atStart => exact ⟨0, Nat.zero_le _, rfl, ⟨rfl⟩, ⟨Below.refl _ _⟩⟩
  case round =>
    obtain ⟨k, hk, rfl, HP, HB⟩ := hrel
    by_cases hlt2 : k < l.length
    · obtain ⟨ad, e1, hx0, hx1⟩ := at_T32 HR0.out (k : Int) (by omega) (by omega)
      cases e1
      replace hx0 := (HB.out.cell (World.block_lt_of_cell? w _ hx0)).trans hx0
      replace hx1 := (HB.out.cell (World.block_lt_of_cell? w _ hx1)).trans hx1
      rw [Int.toNat_natCast] at hx0 hx1
      have hcr := (HB.out.cell hlt).trans hc
      have HD := Aside0.mk (pls_drop l id k hlt2)
      by_cases he : (rd_T32 l (k : Int)).f0 = id
      · have heb : ((rd_T32 l (k : Int)).f0 == id) = true := beq_iff_eq.mpr he
        rw [if_pos he] at HD
        clear he
        go_wp2_with (first | (go_at_call 22; (with_reducible refine (spot_inner _ _ id g _ hcr).mono ?_); rintro e w' ⟨rfl, hb⟩))
        go_ret
        exact ⟨h_ret_int (by rw [← HP.out, HD.out]), HB.out.trans (hb.mono HB.out.size)⟩
      · have heb : ((rd_T32 l (k : Int)).f0 == id) = false := beq_eq_false_iff_ne.mpr he
        rw [if_neg he] at HD
        clear he
        go_wp2_with (first | (go_at_call 22; (with_reducible refine (spot_inner _ _ id g _ hcr).mono ?_); rintro e w' ⟨rfl, hb⟩))
        go_roundw
        case rel => exact ⟨k + 1, by omega, by go_num, ⟨by rw [← HP.out, HD.out]; congr 1⟩, ⟨HB.out.trans (hb.mono HB.out.size)⟩⟩
        case measure => simp [intOf]; omega
    · obtain rfl : k = l.length := by omega
      go_wp2
      go_ret
      exact ⟨h_ret_int (by rw [← HP.out]; simp [pls]), HB.out⟩
set_option maxHeartbeats 400000 in
theorem spot_contains (A0 : Option Addr) (c0 : Nat) (l : List S32) (id : Int) (g : Nat) (w : World) (hr0 : Kd.C k32 w A0 l.length l) (hn : l.length ≤ 1000000) (hc : w.cell? ⟨g, 0, none⟩ = some (.int .i64 id)) :
    Calls Try.prog 21 #[.slice A0 l.length c0, .func (.func 22) #[] #[.pointer (some ⟨g, 0, none⟩)]] w fun e w' => e = .returned (.bool (decide (0 ≤ pls l id 0))) ∧ Below w.heap.size w w' := by
  have HP := Aside0.mk (spot_index A0 c0 l id g w hr0 hn hc)
  clear hr0 hc
  go_enter Try.func21, Try.ntmps21
  go_wp2_with ((with_reducible refine (HP.out).mono ?_); rintro e w7 ⟨rfl, hb1⟩)
  go_ret
  exact ⟨rfl, hb1⟩

/-! ### image_Inputs: function 7 (by hand) -/
def inp (l2 : List S32) (l3 : List ByteArray) (b : List UInt8) : Nat → List UInt8
  | 0 => b
  | i + 1 => putl (inp l2 l3 b i) (l2.getD i z32).f1 (l3.getD i ByteArray.empty).data.toList
theorem inp_succ (l2 : List S32) (l3 : List ByteArray) (b : List UInt8) (k : Nat) : inp l2 l3 b (k + 1) = putl (inp l2 l3 b k) (rd_T32 l2 (k : Int)).f1 (rdOf ByteArray.empty l3 (k : Int)).data.toList := by
  simp [inp, rd_T32, rdOf]
def image_Inputs.b0 (a0 : Int) (a1 : ByteArray) : List UInt8 := putl (List.replicate 64 0) 0 (a1.data.toList.take (min a1.size a0.toNat))
def image_Inputs.f (a0 : Int) (a1 : ByteArray) (l2 : List S32) (l3 : List ByteArray) : Option ByteArray :=
  if a1.size ≤ 1000000 ∧ l2.length ≤ 1000000 ∧ l3.length ≤ 1000000 ∧ (l2.all fun s => decide (-9223372036854775808 ≤ s.f1 ∧ s.f1 ≤ 9223372036854775807)) = true ∧ (l3.all fun v => decide (v.size ≤ 1000000)) = true then
    some ⟨(inp l2 l3 (image_Inputs.b0 a0 a1) (min l2.length l3.length)).toArray⟩ else none
theorem image_Inputs.b0_empty (a0 : Int) (a1 : ByteArray) (h : a0 ≤ 0) : putl (List.replicate 64 0) 0 ByteArray.empty.data.toList = image_Inputs.b0 a0 a1 := by
  unfold image_Inputs.b0
  rw [show min a1.size a0.toNat = 0 by omega]
  rfl
theorem image_Inputs.b0_ext (a0 : Int) (a1 : ByteArray) : putl (List.replicate 64 0) 0 (a1.extract 0 a0.toNat).data.toList = image_Inputs.b0 a0 a1 := by
  unfold image_Inputs.b0
  congr 1
  have := data_length a1
  simp
  omega
theorem image_Inputs.b0_all (a0 : Int) (a1 : ByteArray) (h : a1.size ≤ a0.toNat) : putl (List.replicate 64 0) 0 a1.data.toList = image_Inputs.b0 a0 a1 := by
  unfold image_Inputs.b0
  congr 1
  rw [List.take_of_length_le]
  rw [data_length]
  omega
theorem image_Inputs.b0_len (a0 : Int) (a1 : ByteArray) : (image_Inputs.b0 a0 a1).length = 64 := by unfold image_Inputs.b0; rw [putl_len]; simp
set_option maxHeartbeats 800000 in
theorem image_Inputs.calls (a0 : Int) (a1 : ByteArray) (A2 : Option Addr) (c2 : Nat) (l2 : List (S32)) (A3 : Option Addr) (c3 : Nat) (l3 : List ByteArray) (r : ByteArray) (w : World) (hr2 : Kd.C k32 w A2 l2.length l2) (hc2 : l2.length ≤ c2) (hr3 : Kd.C Kd.string w A3 l3.length l3) (hc3 : l3.length ≤ c3) (h : image_Inputs.f a0 a1 l2 l3 = some r) :
    Calls Try.prog 7 #[.int .i64 a0, .string a1, .slice A2 l2.length c2, .slice A3 l3.length c3] w fun e w' => e = .returned (.string r) ∧ Below w.heap.size w w' := by
  unfold image_Inputs.f at h
  split at h
  rotate_left
  · cases h
  rename_i hcond
  obtain ⟨q1, q2, q3, q4, q5⟩ := hcond
  obtain rfl := Option.some.inj h
  clear h
  have HR2 := Aside0.mk hr2
  have HR3 := Aside0.mk hr3
  clear hr2 hr3
  obtain ⟨m, hm⟩ : ∃ m : Nat, m = min a1.size a0.toNat := ⟨_, rfl⟩
  go_enter Try.func7, Try.ntmps7
  go_upto_region 2 with (first
    | ((with_reducible refine gate_dst (N := 11) rfl ?_); refine Kd.R_make (Kd.int .u8) _ 5 rfl (N := 11) rfl 37 _ _ rfl 64 rfl rfl Try.underlying37 (.int .u8 0) 1 info5 rfl (by decide) (by omega) 0 (ok := fun _ => True) (okp := fun _ => True) rfl (fun _ hk => hk) trivial (by omega) (by omega) (Below.refl _ _) (Nat.le_refl _) ?_; intro v125 w6 ho7 hb hg_ hnew_; clear hg_; obtain ⟨g, c, rfl, hgc, hgb, hgl, hbt⟩ := bts_of_R (xs := List.replicate 64 0) (by simpa using ho7) hnew_; clear hnew_; have HBt := Aside0.mk hbt; have HB := Aside0.mk hb; clear ho7 hbt hb))
  go_cut [] (fun wr => Aside0 (g < wr.heap.size) ∧ Aside0 (Bts wr g (image_Inputs.b0 a0 a1)) ∧ Aside0 (Below w.heap.size w wr))
  case first =>
    go_wp2_with fail
    all_goals
      have hsmall : (a1.extract 0 a0.toNat).size ≤ 140737488351232 ∧ a1.size ≤ 140737488351232 ∧ (a1.extract 0 a1.size).size ≤ 140737488351232 ∧ ByteArray.empty.size ≤ 140737488351232 := ⟨by rw [ByteArray.size_extract]; omega, by omega, by rw [ByteArray.size_extract]; omega, by decide⟩
      refine (put_calls g c (List.replicate 64 0) 0 _ _ HBt.out hgl (by simp) (by first | exact hsmall.1 | exact hsmall.2.1 | exact hsmall.2.2.1 | exact hsmall.2.2.2) (by omega) (by omega) hgc).mono ?_
      rintro e w7 ⟨rfl, hb1, hb2, hb3⟩
      have HB1 := Aside0.mk hb1
      have HB2 := Aside0.mk hb2
      have HB3 := Aside0.mk hb3
      clear hb1 hb2 hb3
      go_wp2_with fail
      go_meet
      case rel =>
        refine ⟨⟨by rw [HB3.out]; exact hgl⟩, ⟨?_⟩, ⟨HB.out.trans (HB2.out.mono hgb)⟩⟩
        have hx := HB1.out
        first
          | (rw [image_Inputs.b0_empty a0 a1 (by omega)] at hx; exact hx)
          | (rw [image_Inputs.b0_ext a0 a1] at hx; exact hx)
          | (have hh : ¬ (if a0 < 0 then 0 else a0) < (a1.size : Int) := (by omega)
             rw [image_Inputs.b0_all a0 a1 (by split at hh <;> omega)] at hx
             exact hx)
          | (trace_state; skip)
  case rest =>
    obtain ⟨hgl1, hbt1, hB1⟩ := hcut
    have hlen0 := image_Inputs.b0_len a0 a1
    generalize hbb : image_Inputs.b0 a0 a1 = bb at hlen0 hbt1 ⊢
    have HBB := Aside0.mk hbb
    clear hbb
    clear HB HBt hgl
    obtain ⟨n, hn⟩ : ∃ n : Nat, n = min l2.length l3.length := ⟨_, rfl⟩
    have HN := Aside0.mk hn
    have hn2 : n ≤ l2.length := by omega
    have hn3 : n ≤ l3.length := by omega
    clear hn hm
    have hgc2 : 64 ≤ c := by simpa using hgc
    clear hgc
    have hhi : ∀ k, k < n → -9223372036854775808 ≤ (rd_T32 l2 (k : Int)).f1 ∧ (rd_T32 l2 (k : Int)).f1 ≤ 9223372036854775807 := fun k hk => by
      have := List.all_eq_true.mp q4 (l2[k]'(by omega)) (List.getElem_mem _)
      have e : rd_T32 l2 (k : Int) = l2[k]'(by omega) := by simp [rd_T32, List.getD, show k < l2.length by omega]
      rw [e]
      exact of_decide_eq_true this
    have hhs : ∀ k, k < n → (rdOf ByteArray.empty l3 (k : Int)).size ≤ 1000000 := fun k hk => by
      have := List.all_eq_true.mp q5 (l3[k]'(by omega)) (List.getElem_mem _)
      have e : rdOf ByteArray.empty l3 (k : Int) = l3[k]'(by omega) := by simp [rdOf, List.getD, show k < l3.length by omega]
      rw [e]
      exact of_decide_eq_true this
    have HHI := Aside0.mk hhi
    have HHS := Aside0.mk hhs
    have HQ : Aside0 (∀ k, (inp l2 l3 bb k).length = 64) := ⟨fun k => by induction k with | zero => exact hlen0 | succ k ih => unfold inp; rw [putl_len]; exact ih⟩
    clear q4 q5 hhi hhs hlen0
    have hlp : ∀ x : Nat, x = n → ∀ W : World, True := fun _ _ _ => trivial
    have key : (if (l3.length : Int) < (l2.length : Int) then (l3.length : Int) else (l2.length : Int)) = (n : Int) := by have := HN.out; split <;> omega
    by_cases hle : l2.length ≤ l3.length
    · have hn4 : n = l2.length := by have := HN.out; omega
      have HN4 := Aside0.mk hn4
      have hd : decide (l3.length < l2.length) = false := decide_eq_false (by omega)
      clear key hn4
      go_wp2_with fail
      go_loopw [26] (fun i wr => ∃ k : Nat, k ≤ n ∧ i = .int .i64 k ∧ Aside0 (g < wr.heap.size) ∧ Aside0 (Bts wr g (inp l2 l3 bb k)) ∧ Aside0 (Below w.heap.size w wr)) (fun i _ => n - (intOf i).toNat)
      case atStart => exact ⟨0, Nat.zero_le _, rfl, hgl1, hbt1, hB1⟩
      case round =>
        obtain ⟨k, hk, rfl, hI, hG, hB⟩ := hrel
        by_cases hkn : k < n
        · have hkA : k < l2.length := by omega
          have hkB : k < l3.length := by omega
          obtain ⟨ad, e1, hx0, hx1⟩ := at_T32 HR2.out (k : Int) (by omega) (by omega)
          cases e1
          replace hx1 := (hB.out.cell (World.block_lt_of_cell? w _ hx1)).trans hx1
          clear hx0
          obtain ⟨bd, e2, hy0⟩ := Kd.at_string HR3.out (k : Int) (by omega) (by omega)
          cases e2
          replace hy0 := (hB.out.cell (World.block_lt_of_cell? w _ hy0)).trans hy0
          rw [Int.toNat_natCast] at hx1 hy0
          go_wp2_with fail
          go_still_tail 10, (by kernel_rfl)
          change wpList _ _ _ _ _ wr.drew
          have HP := Aside0.mk ((put_calls g c (inp l2 l3 bb k) (rd_T32 l2 (k : Int)).f1 (rdOf ByteArray.empty l3 (k : Int)) wr.drew (bts_drew hG.out) hI.out (by rw [HQ.out]; omega) (by have := HHS.out k hkn; omega) (HHI.out k hkn).1 (HHI.out k hkn).2 (by rw [HQ.out]; exact hgc2)))
          rw [HQ.out] at HP
          go_wp2_with ((with_reducible refine (HP.out).mono ?_); rintro e w7 ⟨rfl, hb1, hb2, hb3⟩; have HB1 := Aside0.mk hb1; have HB2 := Aside0.mk hb2; have HB3 := Aside0.mk hb3; clear hb1 hb2 hb3)
          go_roundw
          case rel => exact ⟨k + 1, by omega, by go_num, ⟨by rw [HB3.out]; exact hI.out⟩, ⟨by have := HB1.out; rw [inp_succ]; exact this⟩, ⟨(below_drew1 hB.out).trans (HB2.out.mono hgb)⟩⟩
          case measure => simp [intOf]; omega
        · have hkA : l2.length ≤ k := by have := HN4.out; omega
          obtain rfl : k = n := by omega
          have hcv := bts_conv (c := c) hG.out (by rw [HQ.out]; omega)
          rw [HQ.out] at hcv
          go_wp2_with fail
          go_ret
          exact ⟨h_ret_str (by rw [HBB.out, ← HN.out]), hB.out⟩
    · have hn4 : n = l3.length := by have := HN.out; omega
      have HN4 := Aside0.mk hn4
      have hd : decide (l3.length < l2.length) = true := decide_eq_true (by omega)
      clear key hn4
      go_wp2_with fail
      go_loopw [26] (fun i wr => ∃ k : Nat, k ≤ n ∧ i = .int .i64 k ∧ Aside0 (g < wr.heap.size) ∧ Aside0 (Bts wr g (inp l2 l3 bb k)) ∧ Aside0 (Below w.heap.size w wr)) (fun i _ => n - (intOf i).toNat)
      case atStart => exact ⟨0, Nat.zero_le _, rfl, hgl1, hbt1, hB1⟩
      case round =>
        obtain ⟨k, hk, rfl, hI, hG, hB⟩ := hrel
        by_cases hkn : k < n
        · have hkA : k < l2.length := by omega
          have hkB : k < l3.length := by omega
          obtain ⟨ad, e1, hx0, hx1⟩ := at_T32 HR2.out (k : Int) (by omega) (by omega)
          cases e1
          replace hx1 := (hB.out.cell (World.block_lt_of_cell? w _ hx1)).trans hx1
          clear hx0
          obtain ⟨bd, e2, hy0⟩ := Kd.at_string HR3.out (k : Int) (by omega) (by omega)
          cases e2
          replace hy0 := (hB.out.cell (World.block_lt_of_cell? w _ hy0)).trans hy0
          rw [Int.toNat_natCast] at hx1 hy0
          go_wp2_with fail
          go_still_tail 10, (by kernel_rfl)
          change wpList _ _ _ _ _ wr.drew
          have HP := Aside0.mk ((put_calls g c (inp l2 l3 bb k) (rd_T32 l2 (k : Int)).f1 (rdOf ByteArray.empty l3 (k : Int)) wr.drew (bts_drew hG.out) hI.out (by rw [HQ.out]; omega) (by have := HHS.out k hkn; omega) (HHI.out k hkn).1 (HHI.out k hkn).2 (by rw [HQ.out]; exact hgc2)))
          rw [HQ.out] at HP
          go_wp2_with ((with_reducible refine (HP.out).mono ?_); rintro e w7 ⟨rfl, hb1, hb2, hb3⟩; have HB1 := Aside0.mk hb1; have HB2 := Aside0.mk hb2; have HB3 := Aside0.mk hb3; clear hb1 hb2 hb3)
          go_roundw
          case rel => exact ⟨k + 1, by omega, by go_num, ⟨by rw [HB3.out]; exact hI.out⟩, ⟨by have := HB1.out; rw [inp_succ]; exact this⟩, ⟨(below_drew1 hB.out).trans (HB2.out.mono hgb)⟩⟩
          case measure => simp [intOf]; omega
        · have hkA : l3.length ≤ k := by have := HN4.out; omega
          obtain rfl : k = n := by omega
          have hcv := bts_conv (c := c) hG.out (by rw [HQ.out]; omega)
          rw [HQ.out] at hcv
          go_wp2_with fail
          go_ret
          exact ⟨h_ret_str (by rw [HBB.out, ← HN.out]), hB.out⟩


/-! ### image_mask: function 18 -/
def image_mask.f (a0 : Int) (a1 : Int) : Option (Int) := if a1 ≥ 64 then (if 0 ≤ a0 then (some (shl .u64 18446744073709551615 a0)) else (none)) else (if 0 ≤ a1 then (if 0 ≤ a0 then (some (shl .u64 (IntKind.u64.wrap ((shl .u64 1 a1) - 1)) a0)) else (none)) else (none))
set_option maxHeartbeats 8000000 in
set_option maxRecDepth 100000 in
theorem image_mask.calls (a0 : Int) (a1 : Int) (r : Int) (w : World) (h : image_mask.f a0 a1 = some r) :
    Calls Try.prog 18 #[.int .i64 a0, .int .i64 a1] w fun e w' => e = .returned (.int .u64 r) ∧ Drawn0 w w' := by
  have H : (if a1 ≥ 64 then (if 0 ≤ a0 then (some (shl .u64 18446744073709551615 a0)) else (none)) else (if 0 ≤ a1 then (if 0 ≤ a0 then (some (shl .u64 (IntKind.u64.wrap ((shl .u64 1 a1) - 1)) a0)) else (none)) else (none))) = some r := h
  clear h
  by_cases c3 : a1 ≥ 64
  · rw [if_pos c3] at H
    have c3b0 : decide (64 ≤ a1) = true := decide_eq_true c3
    clear c3
    by_cases c4 : 0 ≤ a0
    · rw [if_pos c4] at H
      have c4b0 := eq_true c4
      have c4b1 : decide (0 ≤ a0) = true := decide_eq_true c4
      clear c4
      obtain ⟨ji5, hji5⟩ : ∃ j_ : Int, (shl .u64 18446744073709551615 a0) = j_ := ⟨_, rfl⟩
      replace H : (some ji5) = some r := by first | (rw [hji5] at H; exact H) | (simp only [hji5] at H ⊢; exact H)
      have hji5_ : (IntKind.u64.wrap (18446744073709551615 * 2 ^ min a0.toNat 64)) = ji5 := hji5
      have hji5z : a0 ≤ 64 → (IntKind.u64.wrap (18446744073709551615 * 2 ^ a0.toNat)) = ji5 := shl_small hji5
      obtain rfl := Option.some.inj H
      go_enter Try.func18, Try.ntmps18
      go_wp2
      go_ret
      exact ⟨by first | rfl | (simp; done) | (simp only [← hji5] <;> (first | rfl | simp)) | (simp [*]; done), by repeat (first | exact Drawn0.refl _ | apply Drawn0.step)⟩
    · rw [if_neg c4] at H
      exact absurd H (by simp)
  · rw [if_neg c3] at H
    have c3b0 : decide (64 ≤ a1) = false := decide_eq_false c3
    clear c3
    by_cases c6 : 0 ≤ a1
    · rw [if_pos c6] at H
      have c6b0 := eq_true c6
      have c6b1 : decide (0 ≤ a1) = true := decide_eq_true c6
      clear c6
      obtain ⟨ji7, hji7⟩ : ∃ j_ : Int, (shl .u64 1 a1) = j_ := ⟨_, rfl⟩
      replace H : (if 0 ≤ a0 then (some (shl .u64 (IntKind.u64.wrap ((ji7) - 1)) a0)) else (none)) = some r := by first | (rw [hji7] at H; exact H) | (simp only [hji7] at H ⊢; exact H)
      have hji7_ : (IntKind.u64.wrap (1 * 2 ^ min a1.toNat 64)) = ji7 := hji7
      have hji7z : a1 ≤ 64 → (IntKind.u64.wrap (1 * 2 ^ a1.toNat)) = ji7 := shl_small hji7
      have hji7u : (IntKind.u64.wrap (2 ^ min a1.toNat 64)) = ji7 := by have h_ := hji7_; rw [Int.one_mul] at h_; exact h_
      have hji7v : a1 ≤ 64 → (IntKind.u64.wrap (2 ^ a1.toNat)) = ji7 := fun hle_ => by have h_ := hji7z hle_; rw [Int.one_mul] at h_; exact h_
      by_cases c8 : 0 ≤ a0
      · rw [if_pos c8] at H
        have c8b0 := eq_true c8
        have c8b1 : decide (0 ≤ a0) = true := decide_eq_true c8
        clear c8
        obtain ⟨ji9, hji9⟩ : ∃ j_ : Int, (shl .u64 (IntKind.u64.wrap ((ji7) - 1)) a0) = j_ := ⟨_, rfl⟩
        replace H : (some ji9) = some r := by first | (rw [hji9] at H; exact H) | (simp only [hji9] at H ⊢; exact H)
        have hji9_ : (IntKind.u64.wrap ((IntKind.u64.wrap ((ji7) - 1)) * 2 ^ min a0.toNat 64)) = ji9 := hji9
        have hji9z : a0 ≤ 64 → (IntKind.u64.wrap ((IntKind.u64.wrap ((ji7) - 1)) * 2 ^ a0.toNat)) = ji9 := shl_small hji9
        obtain rfl := Option.some.inj H
        go_enter Try.func18, Try.ntmps18
        go_wp2
        go_ret
        exact ⟨by first | rfl | (simp; done) | (simp only [← hji7, ← hji9] <;> (first | rfl | simp)) | (simp [*]; done), by repeat (first | exact Drawn0.refl _ | apply Drawn0.step)⟩
      · rw [if_neg c8] at H
        exact absurd H (by simp)
    · rw [if_neg c6] at H
      exact absurd H (by simp)

/-! ### blocks_place: function 23: the first place of an ID, below 0: none (by hand: a closure handed to slices.IndexFunc) -/
def plc : List S34 → Int → Int → Int
  | [], _, _ => -1
  | b :: l, id, i => if b.f0 = id then i else plc l id (i + 1)

def blocks_place.f (l : List S34) (id : Int) : Option Int := if l.length ≤ 1000000 then some (plc l id 0) else none
set_option maxHeartbeats 400000 in
theorem blocks_place.inner (x0 x1 x2 : Int) (x3 : Bool) (id : Int) (p : Addr) (w : World) (hc : w.cell? p = some (.int .i64 id)) :
    Calls Try.prog 26 #[.agg #[.int .i64 x0, .int .i64 x1, .int .i64 x2, .bool x3], .pointer (some p)] w fun e w' => e = .returned (.bool (x0 == id)) ∧ Below w.heap.size w w' := by
  have hu34 := Try.underlying34
  have hlt := World.block_lt_of_cell? w p hc
  go_enter Try.func26, Try.ntmps26
  go_wp2
  go_ret
  exact ⟨rfl, (Below.refl _ _).alloc (Nat.le_refl _) _⟩
theorem plc_drop (l : List S34) (id : Int) (k : Nat) (hk : k < l.length) : plc (l.drop k) id k = if (rd_T34 l k).f0 = id then (k : Int) else plc (l.drop (k + 1)) id ((k : Int) + 1) := by
  rw [List.drop_eq_getElem_cons hk]
  unfold rd_T34
  simp [plc, List.getD, hk]
set_option maxHeartbeats 800000 in
theorem blocks_place.index (A0 : Option Addr) (c0 : Nat) (l : List S34) (id : Int) (p : Addr) (w : World) (hr0 : Kd.C k34 w A0 l.length l) (hn : l.length ≤ 1000000) (hc : w.cell? p = some (.int .i64 id)) :
    Calls Try.prog 25 #[.slice A0 l.length c0, .func (.func 26) #[] #[.pointer (some p)]] w fun e w' => e = .returned (.int .i64 (plc l id 0)) ∧ Below w.heap.size w w' := by
  have hu34 := Try.underlying34
  have hlt := World.block_lt_of_cell? w p hc
  have HR0 := Aside0.mk hr0
  clear hr0
  go_enter Try.func25, Try.ntmps25
  go_wp2
  go_loopw [8] (fun i wr => ∃ k : Nat, k ≤ l.length ∧ i = .int .i64 k ∧ Aside0 (plc (l.drop k) id k = plc l id 0) ∧ Aside0 (Below w.heap.size w wr)) (fun i _ => l.length - (intOf i).toNat)
  case atStart => exact ⟨0, Nat.zero_le _, rfl, ⟨rfl⟩, ⟨Below.refl _ _⟩⟩
  case round =>
    obtain ⟨k, hk, rfl, HP, HB⟩ := hrel
    by_cases hlt2 : k < l.length
    · obtain ⟨ad, e1, hx0, hx1, hx2, hx3⟩ := at_T34 HR0.out (k : Int) (by omega) (by omega)
      cases e1
      replace hx0 := (HB.out.cell (World.block_lt_of_cell? w _ hx0)).trans hx0
      replace hx1 := (HB.out.cell (World.block_lt_of_cell? w _ hx1)).trans hx1
      replace hx2 := (HB.out.cell (World.block_lt_of_cell? w _ hx2)).trans hx2
      replace hx3 := (HB.out.cell (World.block_lt_of_cell? w _ hx3)).trans hx3
      rw [Int.toNat_natCast] at hx0 hx1 hx2 hx3
      have hcr := (HB.out.cell hlt).trans hc
      have HD := Aside0.mk (plc_drop l id k hlt2)
      by_cases he : (rd_T34 l (k : Int)).f0 = id
      · have heb : ((rd_T34 l (k : Int)).f0 == id) = true := beq_iff_eq.mpr he
        rw [if_pos he] at HD
        clear he
        go_wp2_with (first | (go_at_call 26; (with_reducible refine (blocks_place.inner _ _ _ _ id p _ hcr).mono ?_); rintro e w' ⟨rfl, hb⟩))
        go_ret
        exact ⟨h_ret_int (by rw [← HP.out, HD.out]), HB.out.trans (hb.mono HB.out.size)⟩
      · have heb : ((rd_T34 l (k : Int)).f0 == id) = false := beq_eq_false_iff_ne.mpr he
        rw [if_neg he] at HD
        clear he
        go_wp2_with (first | (go_at_call 26; (with_reducible refine (blocks_place.inner _ _ _ _ id p _ hcr).mono ?_); rintro e w' ⟨rfl, hb⟩))
        go_roundw
        case rel => exact ⟨k + 1, by omega, by go_num, ⟨by rw [← HP.out, HD.out]; congr 1⟩, ⟨HB.out.trans (hb.mono HB.out.size)⟩⟩
        case measure => simp [intOf]; omega
    · obtain rfl : k = l.length := by omega
      go_wp2
      go_ret
      exact ⟨h_ret_int (by rw [← HP.out]; simp [plc]), HB.out⟩
set_option maxHeartbeats 800000 in
theorem blocks_place.calls (A0 : Option Addr) (c0 : Nat) (l0 : List (S34)) (a1 : Int) (r : Int) (w : World) (hr0 : Kd.C k34 w A0 l0.length l0) (hc0 : l0.length ≤ c0) (h : blocks_place.f l0 a1 = some r) :
    Calls Try.prog 23 #[.slice A0 l0.length c0, .int .i64 a1] w fun e w' => e = .returned (.int .i64 r) ∧ Below w.heap.size w w' := by
  have hn : l0.length ≤ 1000000 := by
    unfold blocks_place.f at h
    split at h
    · assumption
    · cases h
  have hr : plc l0 a1 0 = r := by
    unfold blocks_place.f at h
    rw [if_pos hn] at h
    exact Option.some.inj h
  subst hr
  clear h
  have hmf : ∀ (fn : Fn) (first cap : Array Value) (w : World), (Instr.makeFunc fn first cap).run Try.prog w = .ok (.func fn first cap) w := fun _ _ _ _ => rfl
  have HR0 := Aside0.mk hr0
  clear hr0
  go_enter Try.func23, Try.ntmps23
  have hcell : (w.alloc (.cells #[.int .i64 a1] 3)).cell? ⟨w.heap.size, 0, none⟩ = some (.int .i64 a1) := (blk_cell (blk_new w _) 0).trans rfl
  have hB1 : Below w.heap.size w (w.alloc (.cells #[.int .i64 a1] 3)) := below_alloc (Below.refl _ _) _
  have HC := Aside0.mk hcell
  have HB1 := Aside0.mk hB1
  clear hcell hB1
  go_wp2_with (first | (go_at_call 25; (with_reducible refine (blocks_place.index A0 c0 l0 a1 ⟨w.heap.size, 0, none⟩ _ ?side1 hn ?side2).mono ?_); (case side1 => exact Kd.C_below HR0.out HB1.out); (case side2 => exact HC.out); rintro e w' ⟨rfl, hb⟩))
  go_ret
  exact ⟨rfl, below_step HB1.out hb⟩


/-! ### blocks_Find: function 20 -/
def blocks_Find.f (l0 : List (S34)) (a1 : Int) : Option (Int × Int × Int × Bool × Bool) := (blocks_place.f l0 a1).bind fun t102 => (if t102 < 0 then (some (0, 0, 0, false, false)) else (if 0 ≤ t102 then (if t102 < (l0.length : Int) then (some ((rd_T34 l0 t102).f0, (rd_T34 l0 t102).f1, (rd_T34 l0 t102).f2, (rd_T34 l0 t102).f3, true)) else (none)) else (none)))
set_option maxHeartbeats 8000000 in
set_option maxRecDepth 100000 in
theorem blocks_Find.calls (A0 : Option Addr) (c0 : Nat) (l0 : List (S34)) (a1 : Int) (r1 : Int) (r2 : Int) (r3 : Int) (r4 : Bool) (r5 : Bool) (w : World) (hr0 : Kd.C k34 w A0 l0.length l0) (hc0 : l0.length ≤ c0) (h : blocks_Find.f l0 a1 = some (r1, r2, r3, r4, r5)) :
    Calls Try.prog 20 #[.slice A0 l0.length c0, .int .i64 a1] w fun e w' => e = .returned (.tuple #[.agg #[.int .i64 r1, .int .i64 r2, .int .i64 r3, .bool r4], .bool r5]) ∧ Below w.heap.size w w' := by
  have hu34 := Try.underlying34
  have HR0 := Aside0.mk hr0
  have HC0 := Aside0.mk hc0
  clear hr0 hc0
  have HB := Aside0.mk (Below.refl w.heap.size w)
  have H : ((blocks_place.f l0 a1).bind fun t102 => (if t102 < 0 then (some (0, 0, 0, false, false)) else (if 0 ≤ t102 then (if t102 < (l0.length : Int) then (some ((rd_T34 l0 t102).f0, (rd_T34 l0 t102).f1, (rd_T34 l0 t102).f2, (rd_T34 l0 t102).f3, true)) else (none)) else (none)))) = some (r1, r2, r3, r4, r5) := h
  clear h
  replace H := Option.bind_eq_some_iff.mp H
  obtain ⟨t102, A30, H⟩ := H
  replace H : (if t102 < 0 then (some (0, 0, 0, false, false)) else (if 0 ≤ t102 then (if t102 < (l0.length : Int) then (some ((rd_T34 l0 t102).f0, (rd_T34 l0 t102).f1, (rd_T34 l0 t102).f2, (rd_T34 l0 t102).f3, true)) else (none)) else (none))) = some (r1, r2, r3, r4, r5) := H
  have A3 := Aside0.mk A30
  clear A30
  by_cases c4 : t102 < 0
  · rw [if_pos c4] at H
    have c4b0 : decide (t102 < 0) = true := decide_eq_true c4
    clear c4
    simp only [Option.some.injEq, Prod.mk.injEq] at H
    obtain ⟨rfl, rfl, rfl, rfl, rfl⟩ := H
    go_enter Try.func20, Try.ntmps20
    go_wp2_with (first | ((with_reducible refine gate_dst (N := 4) rfl ?_); refine box_event ?hg (N := 4) ?hd (cs := #[.int .i64 0, .int .i64 0, .int .i64 0, .bool false]) (t := 34) ?hr ?_; (case hd => rfl); (case hg => rfl); (case hr => first | (go_simp; done) | (go_simp; rfl)); intro gb101 hg w5 hbox hb; have n0_ := Aside0.mk (below_step (by repeat (first | (with_reducible first | exact HB.out | apply below_alloc | apply pw_below_drewN | apply below_drew1) | exact HB.out)) hb); have n1_ := Aside0.mk (hbox); have n2_ := Aside0.mk ((by rw [hg]; exact (below_size (by repeat (first | (with_reducible first | exact HB.out | apply below_alloc | apply pw_below_drewN | apply below_drew1) | exact HB.out))) : w.heap.size ≤ gb101)); have n3_ := Aside0.mk ((by rw [hg]; exact (below_size (by repeat (first | (with_reducible first | exact HB.out | apply below_alloc | apply pw_below_drewN | apply below_drew1) | exact HB.out))) : w.heap.size ≤ gb101)); clear HB; have HB := n0_; have BK101 := n1_; have GW101 := n2_; have GE101 := n3_; clear n0_ n1_ n2_ n3_; clear hb hbox hg) | ((with_reducible refine gate_callee (f := 23) rfl ?_); refine goesL_ (some 9) rfl rfl Try.func23 (by kernel_rfl) rfl #[.slice A0 l0.length c0, .int .i64 a1] rfl (by (try simp only [List.map_toArray, List.map_cons, List.map_nil]); first | done | rfl | (simp only [List.length_drop, List.length_take]; rfl)) ?_; (with_reducible refine (blocks_place.calls _ _ l0 a1 t102 _ ?side1 ?side2 A3.out).mono ?_); (case side1 => repeat (first | exact (Kd.C_below HR0.out HB.out) | (with_reducible refine Kd.C_alloc ?_ _) | (with_reducible refine Kd.C_drewN ?_ _) | (with_reducible refine Kd.C_drew ?_))); (case side2 => exact HC0.out); rintro e w6 ⟨rfl, hb⟩; refine ⟨_, rfl, ?_⟩; have n0_ := Aside0.mk (blk_below (g := gb101) (o := .cells #[.int .i64 0, .int .i64 0, .int .i64 0, .bool false] 34 (0, 0)) (by (with_reducible repeat (first | refine blk_drewN ?_ _ | refine blk_drew ?_ | refine blk_alloc ?_ _)); exact BK101.out) hb); have n1_ := Aside0.mk (below_step (by repeat (first | (with_reducible first | exact HB.out | apply below_alloc | apply pw_below_drewN | apply below_drew1 | refine below_set ?_ GE101.out) | exact HB.out)) hb); clear BK101; clear HB; have BK101 := n0_; have HB := n1_; clear n0_ n1_; (try clear hb); (try clear hb2); (try clear hk); (try clear hi); have hcz7_0 : w6.cell? ⟨gb101, 0, none⟩ = some (.int .i64 0) := (blk_cell BK101.out 0).trans rfl; have hcz7_1 : w6.cell? ⟨gb101, 1, none⟩ = some (.int .i64 0) := (blk_cell BK101.out 1).trans rfl; have hcz7_2 : w6.cell? ⟨gb101, 2, none⟩ = some (.int .i64 0) := (blk_cell BK101.out 2).trans rfl; have hcz7_3 : w6.cell? ⟨gb101, 3, none⟩ = some (.bool false) := (blk_cell BK101.out 3).trans rfl; have hfz7_0 := blk_frozen BK101.out 0; have hfz7_1 := blk_frozen BK101.out 1; have hfz7_2 := blk_frozen BK101.out 2; have hfz7_3 := blk_frozen BK101.out 3))
    refine bodyPost_ret (results_ct rfl _ _ gb101 34 #[.int .i64 0, .int .i64 0, .int .i64 0, .bool false] (0, 0) _ rfl (by (with_reducible repeat (first | refine blk_drewN ?_ _ | refine blk_drew ?_ | refine blk_alloc ?_ _)); refine blk_put (cs := #[.int .i64 0, .int .i64 0, .int .i64 0, .bool false]) ?_ 3 _ rfl; (with_reducible repeat (first | refine blk_drewN ?_ _ | refine blk_drew ?_ | refine blk_alloc ?_ _)); refine blk_put (cs := #[.int .i64 0, .int .i64 0, .int .i64 0, .bool false]) ?_ 2 _ rfl; (with_reducible repeat (first | refine blk_drewN ?_ _ | refine blk_drew ?_ | refine blk_alloc ?_ _)); refine blk_put (cs := #[.int .i64 0, .int .i64 0, .int .i64 0, .bool false]) ?_ 1 _ rfl; (with_reducible repeat (first | refine blk_drewN ?_ _ | refine blk_drew ?_ | refine blk_alloc ?_ _)); refine blk_put (cs := #[.int .i64 0, .int .i64 0, .int .i64 0, .bool false]) ?_ 0 _ rfl; (with_reducible repeat (first | refine blk_drewN ?_ _ | refine blk_drew ?_ | refine blk_alloc ?_ _)); exact BK101.out) Try.underlying34 rfl (by kernel_rfl)) rfl ?_
    exact ⟨by first | rfl | (simp [errW_none, errW_some] <;> rfl) | (simp [*, errW_none, errW_some] <;> rfl), by repeat (first | (with_reducible first | exact HB.out | apply below_alloc | apply pw_below_drewN | apply below_drew1 | refine below_set ?_ GE101.out) | exact HB.out)⟩
  · rw [if_neg c4] at H
    have c4b0 : decide (t102 < 0) = false := decide_eq_false c4
    clear c4
    by_cases c8 : 0 ≤ t102
    · rw [if_pos c8] at H
      have c8b0 : decide (0 ≤ t102) = true := decide_eq_true c8
      clear c8
      by_cases c9 : t102 < (l0.length : Int)
      · rw [if_pos c9] at H
        have c9b0 : decide (t102 < (l0.length : Int)) = true := decide_eq_true c9
        clear c9
        simp only [Option.some.injEq, Prod.mk.injEq] at H
        obtain ⟨rfl, rfl, rfl, rfl, rfl⟩ := H
        go_enter Try.func20, Try.ntmps20
        go_wp2_with (first | ((with_reducible refine gate_dst (N := 4) rfl ?_); refine box_event ?hg (N := 4) ?hd (cs := #[.int .i64 0, .int .i64 0, .int .i64 0, .bool false]) (t := 34) ?hr ?_; (case hd => rfl); (case hg => rfl); (case hr => first | (go_simp; done) | (go_simp; rfl)); intro gb101 hg w10 hbox hb; have n0_ := Aside0.mk (below_step (by repeat (first | (with_reducible first | exact HB.out | apply below_alloc | apply pw_below_drewN | apply below_drew1) | exact HB.out)) hb); have n1_ := Aside0.mk (hbox); have n2_ := Aside0.mk ((by rw [hg]; exact (below_size (by repeat (first | (with_reducible first | exact HB.out | apply below_alloc | apply pw_below_drewN | apply below_drew1) | exact HB.out))) : w.heap.size ≤ gb101)); have n3_ := Aside0.mk ((by rw [hg]; exact (below_size (by repeat (first | (with_reducible first | exact HB.out | apply below_alloc | apply pw_below_drewN | apply below_drew1) | exact HB.out))) : w.heap.size ≤ gb101)); clear HB; have HB := n0_; have BK101 := n1_; have GW101 := n2_; have GE101 := n3_; clear n0_ n1_ n2_ n3_; clear hb hbox hg) | ((with_reducible refine gate_callee (f := 23) rfl ?_); refine goesL_ (some 9) rfl rfl Try.func23 (by kernel_rfl) rfl #[.slice A0 l0.length c0, .int .i64 a1] rfl (by (try simp only [List.map_toArray, List.map_cons, List.map_nil]); first | done | rfl | (simp only [List.length_drop, List.length_take]; rfl)) ?_; (with_reducible refine (blocks_place.calls _ _ l0 a1 t102 _ ?side1 ?side2 A3.out).mono ?_); (case side1 => repeat (first | exact (Kd.C_below HR0.out HB.out) | (with_reducible refine Kd.C_alloc ?_ _) | (with_reducible refine Kd.C_drewN ?_ _) | (with_reducible refine Kd.C_drew ?_))); (case side2 => exact HC0.out); rintro e w11 ⟨rfl, hb⟩; refine ⟨_, rfl, ?_⟩; have n0_ := Aside0.mk (blk_below (g := gb101) (o := .cells #[.int .i64 0, .int .i64 0, .int .i64 0, .bool false] 34 (0, 0)) (by (with_reducible repeat (first | refine blk_drewN ?_ _ | refine blk_drew ?_ | refine blk_alloc ?_ _)); exact BK101.out) hb); have n1_ := Aside0.mk (below_step (by repeat (first | (with_reducible first | exact HB.out | apply below_alloc | apply pw_below_drewN | apply below_drew1 | refine below_set ?_ GE101.out) | exact HB.out)) hb); clear BK101; clear HB; have BK101 := n0_; have HB := n1_; clear n0_ n1_; (try clear hb); (try clear hb2); (try clear hk); (try clear hi); have p103 : 0 ≤ (t102 : Int) := of_decide_eq_true (by first | (with_reducible assumption) | assumption); have q103 : t102 < (l0.length : Int) := of_decide_eq_true (by first | (with_reducible assumption) | assumption); obtain ⟨ad103, e103, hx103_0, hx103_1, hx103_2, hx103_3⟩ := at_T34 HR0.out t102 p103 q103; cases e103; replace hx103_0 := (HB.out.cell (World.block_lt_of_cell? w _ hx103_0)).trans hx103_0; replace hx103_1 := (HB.out.cell (World.block_lt_of_cell? w _ hx103_1)).trans hx103_1; replace hx103_2 := (HB.out.cell (World.block_lt_of_cell? w _ hx103_2)).trans hx103_2; replace hx103_3 := (HB.out.cell (World.block_lt_of_cell? w _ hx103_3)).trans hx103_3; replace p103 := eq_true p103; replace q103 := eq_true q103; have hcz12_0 : w11.cell? ⟨gb101, 0, none⟩ = some (.int .i64 0) := (blk_cell BK101.out 0).trans rfl; have hcz12_1 : w11.cell? ⟨gb101, 1, none⟩ = some (.int .i64 0) := (blk_cell BK101.out 1).trans rfl; have hcz12_2 : w11.cell? ⟨gb101, 2, none⟩ = some (.int .i64 0) := (blk_cell BK101.out 2).trans rfl; have hcz12_3 : w11.cell? ⟨gb101, 3, none⟩ = some (.bool false) := (blk_cell BK101.out 3).trans rfl; have hfz12_0 := blk_frozen BK101.out 0; have hfz12_1 := blk_frozen BK101.out 1; have hfz12_2 := blk_frozen BK101.out 2; have hfz12_3 := blk_frozen BK101.out 3))
        refine bodyPost_ret (results_ct rfl _ _ gb101 34 #[.int .i64 ((rd_T34 l0 t102).f0), .int .i64 ((rd_T34 l0 t102).f1), .int .i64 ((rd_T34 l0 t102).f2), .bool ((rd_T34 l0 t102).f3)] (0, 0) _ rfl (by (with_reducible repeat (first | refine blk_drewN ?_ _ | refine blk_drew ?_ | refine blk_alloc ?_ _)); refine blk_put (cs := #[.int .i64 ((rd_T34 l0 t102).f0), .int .i64 ((rd_T34 l0 t102).f1), .int .i64 ((rd_T34 l0 t102).f2), .bool false]) ?_ 3 _ rfl; (with_reducible repeat (first | refine blk_drewN ?_ _ | refine blk_drew ?_ | refine blk_alloc ?_ _)); refine blk_put (cs := #[.int .i64 ((rd_T34 l0 t102).f0), .int .i64 ((rd_T34 l0 t102).f1), .int .i64 0, .bool false]) ?_ 2 _ rfl; (with_reducible repeat (first | refine blk_drewN ?_ _ | refine blk_drew ?_ | refine blk_alloc ?_ _)); refine blk_put (cs := #[.int .i64 ((rd_T34 l0 t102).f0), .int .i64 0, .int .i64 0, .bool false]) ?_ 1 _ rfl; (with_reducible repeat (first | refine blk_drewN ?_ _ | refine blk_drew ?_ | refine blk_alloc ?_ _)); refine blk_put (cs := #[.int .i64 0, .int .i64 0, .int .i64 0, .bool false]) ?_ 0 _ rfl; (with_reducible repeat (first | refine blk_drewN ?_ _ | refine blk_drew ?_ | refine blk_alloc ?_ _)); exact BK101.out) Try.underlying34 rfl (by kernel_rfl)) rfl ?_
        exact ⟨by first | rfl | (simp [errW_none, errW_some] <;> rfl) | (simp [*, errW_none, errW_some] <;> rfl), by repeat (first | (with_reducible first | exact HB.out | apply below_alloc | apply pw_below_drewN | apply below_drew1 | refine below_set ?_ GE101.out) | exact HB.out)⟩
      · rw [if_neg c9] at H
        exact absurd H (by simp)
    · rw [if_neg c8] at H
      exact absurd H (by simp)

/-! ### image_spot: function 19 (by hand) -/
def image_spot.e (s : List S32) (i : Int) (b : Int × Int × Int × Bool × Bool) : Int :=
  if b.2.2.2.2 = false then 5 else if 0 ≤ pls (s.take i.toNat) (rd_T32 s i).f0 0 then 14 else if (rd_T32 s i).f1 < 0 ∨ (rd_T32 s i).f1 > 64 ∨ b.2.2.1 < 0 ∨ b.2.2.1 > 64 - (rd_T32 s i).f1 then 2 else 0
def image_spot.f (s : List S32) (i : Int) (l : List S34) : Option (Int × Int × Int × Bool × Int) :=
  if s.length ≤ 1000000 ∧ 0 ≤ i ∧ i < s.length then (blocks_Find.f l (rd_T32 s i).f0).bind fun b => some (b.1, b.2.1, b.2.2.1, b.2.2.2.1, image_spot.e s i b) else none
set_option maxHeartbeats 1600000 in
theorem image_spot.calls (A0 : Option Addr) (c0 : Nat) (l0 : List (S32)) (a1 : Int) (A2 : Option Addr) (c2 : Nat) (l2 : List (S34)) (r1 : Int) (r2 : Int) (r3 : Int) (r4 : Bool) (r5 : Int) (w : World) (hr0 : Kd.C k32 w A0 l0.length l0) (hc0 : l0.length ≤ c0) (hr2 : Kd.C k34 w A2 l2.length l2) (hc2 : l2.length ≤ c2) (h : image_spot.f l0 a1 l2 = some (r1, r2, r3, r4, r5)) :
    Calls Try.prog 19 #[.slice A0 l0.length c0, .int .i64 a1, .slice A2 l2.length c2] w fun e w' => e = .returned (.tuple #[.agg #[.int .i64 r1, .int .i64 r2, .int .i64 r3, .bool r4], .int .i64 r5]) ∧ Below w.heap.size w w' := by
  unfold image_spot.f at h
  split at h
  rotate_left
  · cases h
  rename_i hcond
  obtain ⟨q1, q2, q3⟩ := hcond
  obtain ⟨b, hb, h⟩ := Option.bind_eq_some_iff.1 h
  have h := Option.some.inj h
  obtain ⟨b1, b2, b3, b4, b5⟩ := b
  simp only [Prod.mk.injEq] at h
  obtain ⟨rfl, rfl, rfl, rfl, rfl⟩ := h
  have hu32 := Try.underlying32
  have hu34 := Try.underlying34
  have HF := Aside0.mk hb
  have HR0 := Aside0.mk hr0
  have HR2 := Aside0.mk hr2
  obtain ⟨i, rfl⟩ := Int.eq_ofNat_of_zero_le q2
  obtain ⟨ad, e1, hx0, hx1⟩ := at_T32 HR0.out (i : Int) (by omega) (by omega)
  cases e1
  rw [Int.toNat_natCast] at hx0 hx1
  clear hb hr0 hr2
  have hin : i < l0.length := by omega
  have HB := Aside0.mk (Below.refl w.heap.size w)
  go_enter Try.func19, Try.ntmps19
  go_upto_region 1 with ((with_reducible refine gate_dst (N := 6) rfl ?_); refine box_event ?hg (N := 6) ?hd (cs := #[.int .i64 0, .int .i64 0, .int .i64 0, .bool false]) (t := 34) ?hr ?_; (case hd => rfl); (case hg => rfl); (case hr => first | (go_simp; done) | (go_simp; rfl)); intro g6 hg w6 hbox hb; have n0_ := Aside0.mk (below_step HB.out hb); have n1_ := Aside0.mk hbox; have n2_ := Aside0.mk ((by rw [hg]; exact below_size HB.out) : w.heap.size ≤ g6); have n3_ := Aside0.mk hg; have n4_ := Aside0.mk hb; clear HB; have HB := n0_; have BKg6 := n1_; have GEg6 := n2_; have HGg6 := n3_; have HSg6 := n4_; clear n0_ n1_ n2_ n3_ n4_; clear hb hbox hg)
  go_cut [8] (fun v8 wr => ∃ g8 : Nat, v8 = .pointer (some ⟨g8, 0, none⟩) ∧ Aside0 (g6 < g8) ∧ Aside0 (w.heap.size ≤ g6) ∧ Aside0 (wr.heap[g6]? = some (.cells #[.int .i64 0, .int .i64 0, .int .i64 0, .bool false] 34 (0, 0))) ∧ Aside0 (wr.heap[g8]? = some (.cells #[.int .i64 (rd_T32 l0 i).f0, .int .i64 (rd_T32 l0 i).f1] 32 (0, 0))) ∧ Aside0 (Below w.heap.size w wr))
  case first =>
    replace hx0 := (HB.out.cell (World.block_lt_of_cell? w _ hx0)).trans hx0
    replace hx1 := (HB.out.cell (World.block_lt_of_cell? w _ hx1)).trans hx1
    go_wp2_with fail
    go_meet
    case rel => exact ⟨w6.heap.size, rfl, ⟨blk_lt BKg6.out⟩, GEg6, ⟨blk_alloc BKg6.out _⟩, ⟨blk_new _ _⟩, ⟨below_alloc HB.out _⟩⟩
  case rest =>
    clear HB BKg6 GEg6 HGg6 HSg6 hx0 hx1
    obtain ⟨g8, rfl, HL8, HG6, HK6, HK8, HB⟩ := hcut
    have hk0 : wc.cell? ⟨g8, 0, none⟩ = some (.int .i64 (rd_T32 l0 i).f0) := (blk_cell HK8.out 0).trans rfl
    go_upto_region 2 with (fail)
    go_cut [9, 10] (fun v9 v10 wr => ∃ g9 : Nat, v9 = .pointer (some ⟨g9, 0, none⟩) ∧ v10 = .bool b5 ∧ Aside0 (g8 < g9) ∧ Aside0 (wr.heap[g6]? = some (.cells #[.int .i64 0, .int .i64 0, .int .i64 0, .bool false] 34 (0, 0))) ∧ Aside0 (wr.heap[g8]? = some (.cells #[.int .i64 (rd_T32 l0 i).f0, .int .i64 (rd_T32 l0 i).f1] 32 (0, 0))) ∧ Aside0 (wr.heap[g9]? = some (.cells #[.int .i64 b1, .int .i64 b2, .int .i64 b3, .bool b4] 34 (0, 0))) ∧ Aside0 (Below w.heap.size w wr))
    case first =>
      go_wp2_with ((go_at_call 20; (with_reducible refine (blocks_Find.calls A2 c2 l2 (rd_T32 l0 i).f0 b1 b2 b3 b4 b5 _ ?side1 hc2 HF.out).mono ?_); (case side1 => exact Kd.C_below HR2.out HB.out); rintro e w7 ⟨rfl, hb⟩; have HS7 := Aside0.mk hb; clear hb))
      go_meet
      case rel => exact ⟨w7.heap.size, rfl, rfl, ⟨Nat.lt_of_lt_of_le (blk_lt HK8.out) HS7.out.size⟩, ⟨blk_alloc (blk_below HK6.out HS7.out) _⟩, ⟨blk_alloc (blk_below HK8.out HS7.out) _⟩, ⟨blk_new _ _⟩, ⟨below_alloc (below_step HB.out HS7.out) _⟩⟩
    case rest =>
      clear HB HK6 HK8 hk0
      obtain ⟨g9, rfl, rfl, HL9, HK6, HK8, HK9, HB⟩ := hcut
      cases hb5 : b5 with
      | false =>
        subst hb5
        have HE : Aside0 (image_spot.e l0 (i : Int) (b1, b2, b3, b4, false) = 5) := ⟨by simp [image_spot.e]⟩
        have hz6_0 : wc.cell? ⟨g6, 0, none⟩ = some (.int .i64 0) := (blk_cell HK6.out 0).trans rfl
        have hf6_0 := blk_frozen HK6.out 0
        have hz9_0 : wc.cell? ⟨g9, 0, none⟩ = some (.int .i64 b1) := (blk_cell HK9.out 0).trans rfl
        have hz6_1 : wc.cell? ⟨g6, 1, none⟩ = some (.int .i64 0) := (blk_cell HK6.out 1).trans rfl
        have hf6_1 := blk_frozen HK6.out 1
        have hz9_1 : wc.cell? ⟨g9, 1, none⟩ = some (.int .i64 b2) := (blk_cell HK9.out 1).trans rfl
        have hz6_2 : wc.cell? ⟨g6, 2, none⟩ = some (.int .i64 0) := (blk_cell HK6.out 2).trans rfl
        have hf6_2 := blk_frozen HK6.out 2
        have hz9_2 : wc.cell? ⟨g9, 2, none⟩ = some (.int .i64 b3) := (blk_cell HK9.out 2).trans rfl
        have hz6_3 : wc.cell? ⟨g6, 3, none⟩ = some (.bool false) := (blk_cell HK6.out 3).trans rfl
        have hf6_3 := blk_frozen HK6.out 3
        have hz9_3 : wc.cell? ⟨g9, 3, none⟩ = some (.bool b4) := (blk_cell HK9.out 3).trans rfl
        have hz8_0 : wc.cell? ⟨g8, 0, none⟩ = some (.int .i64 (rd_T32 l0 i).f0) := (blk_cell HK8.out 0).trans rfl
        have hz8_1 : wc.cell? ⟨g8, 1, none⟩ = some (.int .i64 (rd_T32 l0 i).f1) := (blk_cell HK8.out 1).trans rfl
        have hn69 : g6 ≠ g9 := (by have := HL8.out; have := HL9.out; omega)
        have hn68 : g6 ≠ g8 := (by have := HL8.out; omega)
        go_wp2_with fail
        refine bodyPost_ret (results_ct rfl _ _ g6 34 #[.int .i64 b1, .int .i64 b2, .int .i64 b3, .bool b4] (0, 0) _ rfl (by refine blk_put (cs := #[.int .i64 b1, .int .i64 b2, .int .i64 b3, .bool false]) ?_ 3 _ rfl; refine blk_put (cs := #[.int .i64 b1, .int .i64 b2, .int .i64 0, .bool false]) ?_ 2 _ rfl; refine blk_put (cs := #[.int .i64 b1, .int .i64 0, .int .i64 0, .bool false]) ?_ 1 _ rfl; refine blk_put (cs := #[.int .i64 0, .int .i64 0, .int .i64 0, .bool false]) ?_ 0 _ rfl; exact HK6.out) Try.underlying34 rfl (by kernel_rfl)) rfl ?_
        exact ⟨by rw [HE.out]; rfl, below_set (below_set (below_set (below_set HB.out HG6.out) HG6.out) HG6.out) HG6.out⟩
      | true =>
        subst hb5
        have hli : (l0.take i).length = i := by rw [List.length_take]; omega
        have HP := spot_contains (some ad) c0 (l0.take i) (rd_T32 l0 (i : Int)).f0 g8 wc (Kd.C_take (Kd.C_below HR0.out HB.out) (by omega)) (by omega) ((blk_cell HK8.out 0).trans rfl)
        rw [hli] at HP
        have HP := Aside0.mk HP
        clear hli
        have e1 : (i : Int).toNat = i := Int.toNat_natCast i
        obtain ⟨ct, hct⟩ : ∃ ct : Bool, ct = decide (0 ≤ pls (l0.take i) (rd_T32 l0 (i : Int)).f0 0) := ⟨_, rfl⟩
        rw [← hct] at HP
        have HCT := Aside0.mk hct
        clear hct
        have HB0 := HB
        cases hc : ct with
        | true =>
          subst hc
          have HE : Aside0 (image_spot.e l0 (i : Int) (b1, b2, b3, b4, true) = 14) := ⟨by
            have := of_decide_eq_true HCT.out.symm
            unfold image_spot.e
            rw [e1, if_neg (by simp), if_pos this]⟩
          clear e1
          go_wp2_with ((with_reducible refine (HP.out).mono ?_); rintro e w8 ⟨rfl, hb⟩; have HB := Aside0.mk (below_step HB0.out hb); have HK6 := Aside0.mk (blk_below HK6.out hb); have HK8 := Aside0.mk (blk_below HK8.out hb); have HK9 := Aside0.mk (blk_below HK9.out hb); clear hb; have hz6_0 : w8.cell? ⟨g6, 0, none⟩ = some (.int .i64 0) := (blk_cell HK6.out 0).trans rfl; have hf6_0 := blk_frozen HK6.out 0; have hz9_0 : w8.cell? ⟨g9, 0, none⟩ = some (.int .i64 b1) := (blk_cell HK9.out 0).trans rfl; have hz6_1 : w8.cell? ⟨g6, 1, none⟩ = some (.int .i64 0) := (blk_cell HK6.out 1).trans rfl; have hf6_1 := blk_frozen HK6.out 1; have hz9_1 : w8.cell? ⟨g9, 1, none⟩ = some (.int .i64 b2) := (blk_cell HK9.out 1).trans rfl; have hz6_2 : w8.cell? ⟨g6, 2, none⟩ = some (.int .i64 0) := (blk_cell HK6.out 2).trans rfl; have hf6_2 := blk_frozen HK6.out 2; have hz9_2 : w8.cell? ⟨g9, 2, none⟩ = some (.int .i64 b3) := (blk_cell HK9.out 2).trans rfl; have hz6_3 : w8.cell? ⟨g6, 3, none⟩ = some (.bool false) := (blk_cell HK6.out 3).trans rfl; have hf6_3 := blk_frozen HK6.out 3; have hz9_3 : w8.cell? ⟨g9, 3, none⟩ = some (.bool b4) := (blk_cell HK9.out 3).trans rfl; have hz8_0 : w8.cell? ⟨g8, 0, none⟩ = some (.int .i64 (rd_T32 l0 i).f0) := (blk_cell HK8.out 0).trans rfl; have hz8_1 : w8.cell? ⟨g8, 1, none⟩ = some (.int .i64 (rd_T32 l0 i).f1) := (blk_cell HK8.out 1).trans rfl; have hn69 : g6 ≠ g9 := (by have := HL8.out; have := HL9.out; omega); have hn68 : g6 ≠ g8 := (by have := HL8.out; omega))
          refine bodyPost_ret (results_ct rfl _ _ g6 34 #[.int .i64 b1, .int .i64 b2, .int .i64 b3, .bool b4] (0, 0) _ rfl (by refine blk_put (cs := #[.int .i64 b1, .int .i64 b2, .int .i64 b3, .bool false]) ?_ 3 _ rfl; refine blk_put (cs := #[.int .i64 b1, .int .i64 b2, .int .i64 0, .bool false]) ?_ 2 _ rfl; refine blk_put (cs := #[.int .i64 b1, .int .i64 0, .int .i64 0, .bool false]) ?_ 1 _ rfl; refine blk_put (cs := #[.int .i64 0, .int .i64 0, .int .i64 0, .bool false]) ?_ 0 _ rfl; exact HK6.out) Try.underlying34 rfl (by kernel_rfl)) rfl ?_
          exact ⟨by rw [HE.out]; rfl, below_set (below_set (below_set (below_set HB.out HG6.out) HG6.out) HG6.out) HG6.out⟩
        | false =>
          subst hc
          have hE0 : ∀ r, (if (rd_T32 l0 (i : Int)).f1 < 0 ∨ (rd_T32 l0 (i : Int)).f1 > 64 ∨ b3 < 0 ∨ b3 > 64 - (rd_T32 l0 (i : Int)).f1 then (2 : Int) else 0) = r → image_spot.e l0 (i : Int) (b1, b2, b3, b4, true) = r := fun r hr => by
            have := of_decide_eq_false HCT.out.symm
            unfold image_spot.e
            rw [e1, if_neg (by simp), if_neg this]
            exact hr
          clear e1
          generalize hat : (rd_T32 l0 (i : Int)).f1 = at_ at hE0
          have HAT := Aside0.mk hat
          clear hat
          by_cases h1 : at_ < 0
          · have HE := Aside0.mk (hE0 2 (if_pos (.inl h1)))
            clear hE0
            have d1 : decide (at_ < 0) = true := decide_eq_true h1
            clear h1
            go_wp2_with ((with_reducible refine (HP.out).mono ?_); rintro e w8 ⟨rfl, hb⟩; have HB := Aside0.mk (below_step HB0.out hb); have HK6 := Aside0.mk (blk_below HK6.out hb); have HK8 := Aside0.mk (blk_below HK8.out hb); have HK9 := Aside0.mk (blk_below HK9.out hb); clear hb; have hz6_0 : w8.cell? ⟨g6, 0, none⟩ = some (.int .i64 0) := (blk_cell HK6.out 0).trans rfl; have hf6_0 := blk_frozen HK6.out 0; have hz9_0 : w8.cell? ⟨g9, 0, none⟩ = some (.int .i64 b1) := (blk_cell HK9.out 0).trans rfl; have hz6_1 : w8.cell? ⟨g6, 1, none⟩ = some (.int .i64 0) := (blk_cell HK6.out 1).trans rfl; have hf6_1 := blk_frozen HK6.out 1; have hz9_1 : w8.cell? ⟨g9, 1, none⟩ = some (.int .i64 b2) := (blk_cell HK9.out 1).trans rfl; have hz6_2 : w8.cell? ⟨g6, 2, none⟩ = some (.int .i64 0) := (blk_cell HK6.out 2).trans rfl; have hf6_2 := blk_frozen HK6.out 2; have hz9_2 : w8.cell? ⟨g9, 2, none⟩ = some (.int .i64 b3) := (blk_cell HK9.out 2).trans rfl; have hz6_3 : w8.cell? ⟨g6, 3, none⟩ = some (.bool false) := (blk_cell HK6.out 3).trans rfl; have hf6_3 := blk_frozen HK6.out 3; have hz9_3 : w8.cell? ⟨g9, 3, none⟩ = some (.bool b4) := (blk_cell HK9.out 3).trans rfl; have hz8_0 : w8.cell? ⟨g8, 0, none⟩ = some (.int .i64 (rd_T32 l0 i).f0) := (blk_cell HK8.out 0).trans rfl; have hz8_1 : w8.cell? ⟨g8, 1, none⟩ = some (.int .i64 at_) := (blk_cell HK8.out 1).trans (by rw [← HAT.out]; rfl); have hn69 : g6 ≠ g9 := (by have := HL8.out; have := HL9.out; omega); have hn68 : g6 ≠ g8 := (by have := HL8.out; omega))
            refine bodyPost_ret (results_ct rfl _ _ g6 34 #[.int .i64 b1, .int .i64 b2, .int .i64 b3, .bool b4] (0, 0) _ rfl (by refine blk_put (cs := #[.int .i64 b1, .int .i64 b2, .int .i64 b3, .bool false]) ?_ 3 _ rfl; refine blk_put (cs := #[.int .i64 b1, .int .i64 b2, .int .i64 0, .bool false]) ?_ 2 _ rfl; refine blk_put (cs := #[.int .i64 b1, .int .i64 0, .int .i64 0, .bool false]) ?_ 1 _ rfl; refine blk_put (cs := #[.int .i64 0, .int .i64 0, .int .i64 0, .bool false]) ?_ 0 _ rfl; exact HK6.out) Try.underlying34 rfl (by kernel_rfl)) rfl ?_
            exact ⟨by rw [HE.out]; rfl, below_set (below_set (below_set (below_set HB.out HG6.out) HG6.out) HG6.out) HG6.out⟩
          have d1 : decide (at_ < 0) = false := decide_eq_false h1
          by_cases h2 : at_ > 64
          · have HE := Aside0.mk (hE0 2 (if_pos (.inr (.inl h2))))
            clear hE0
            have d2 : decide (64 < at_) = true := decide_eq_true h2
            clear h1 h2
            go_wp2_with ((with_reducible refine (HP.out).mono ?_); rintro e w8 ⟨rfl, hb⟩; have HB := Aside0.mk (below_step HB0.out hb); have HK6 := Aside0.mk (blk_below HK6.out hb); have HK8 := Aside0.mk (blk_below HK8.out hb); have HK9 := Aside0.mk (blk_below HK9.out hb); clear hb; have hz6_0 : w8.cell? ⟨g6, 0, none⟩ = some (.int .i64 0) := (blk_cell HK6.out 0).trans rfl; have hf6_0 := blk_frozen HK6.out 0; have hz9_0 : w8.cell? ⟨g9, 0, none⟩ = some (.int .i64 b1) := (blk_cell HK9.out 0).trans rfl; have hz6_1 : w8.cell? ⟨g6, 1, none⟩ = some (.int .i64 0) := (blk_cell HK6.out 1).trans rfl; have hf6_1 := blk_frozen HK6.out 1; have hz9_1 : w8.cell? ⟨g9, 1, none⟩ = some (.int .i64 b2) := (blk_cell HK9.out 1).trans rfl; have hz6_2 : w8.cell? ⟨g6, 2, none⟩ = some (.int .i64 0) := (blk_cell HK6.out 2).trans rfl; have hf6_2 := blk_frozen HK6.out 2; have hz9_2 : w8.cell? ⟨g9, 2, none⟩ = some (.int .i64 b3) := (blk_cell HK9.out 2).trans rfl; have hz6_3 : w8.cell? ⟨g6, 3, none⟩ = some (.bool false) := (blk_cell HK6.out 3).trans rfl; have hf6_3 := blk_frozen HK6.out 3; have hz9_3 : w8.cell? ⟨g9, 3, none⟩ = some (.bool b4) := (blk_cell HK9.out 3).trans rfl; have hz8_0 : w8.cell? ⟨g8, 0, none⟩ = some (.int .i64 (rd_T32 l0 i).f0) := (blk_cell HK8.out 0).trans rfl; have hz8_1 : w8.cell? ⟨g8, 1, none⟩ = some (.int .i64 at_) := (blk_cell HK8.out 1).trans (by rw [← HAT.out]; rfl); have hn69 : g6 ≠ g9 := (by have := HL8.out; have := HL9.out; omega); have hn68 : g6 ≠ g8 := (by have := HL8.out; omega))
            refine bodyPost_ret (results_ct rfl _ _ g6 34 #[.int .i64 b1, .int .i64 b2, .int .i64 b3, .bool b4] (0, 0) _ rfl (by refine blk_put (cs := #[.int .i64 b1, .int .i64 b2, .int .i64 b3, .bool false]) ?_ 3 _ rfl; refine blk_put (cs := #[.int .i64 b1, .int .i64 b2, .int .i64 0, .bool false]) ?_ 2 _ rfl; refine blk_put (cs := #[.int .i64 b1, .int .i64 0, .int .i64 0, .bool false]) ?_ 1 _ rfl; refine blk_put (cs := #[.int .i64 0, .int .i64 0, .int .i64 0, .bool false]) ?_ 0 _ rfl; exact HK6.out) Try.underlying34 rfl (by kernel_rfl)) rfl ?_
            exact ⟨by rw [HE.out]; rfl, below_set (below_set (below_set (below_set HB.out HG6.out) HG6.out) HG6.out) HG6.out⟩
          have d2 : decide (64 < at_) = false := decide_eq_false h2
          by_cases h3 : b3 < 0
          · have HE := Aside0.mk (hE0 2 (if_pos (.inr (.inr (.inl h3)))))
            clear hE0
            have d3 : decide (b3 < 0) = true := decide_eq_true h3
            clear h1 h2 h3
            go_wp2_with ((with_reducible refine (HP.out).mono ?_); rintro e w8 ⟨rfl, hb⟩; have HB := Aside0.mk (below_step HB0.out hb); have HK6 := Aside0.mk (blk_below HK6.out hb); have HK8 := Aside0.mk (blk_below HK8.out hb); have HK9 := Aside0.mk (blk_below HK9.out hb); clear hb; have hz6_0 : w8.cell? ⟨g6, 0, none⟩ = some (.int .i64 0) := (blk_cell HK6.out 0).trans rfl; have hf6_0 := blk_frozen HK6.out 0; have hz9_0 : w8.cell? ⟨g9, 0, none⟩ = some (.int .i64 b1) := (blk_cell HK9.out 0).trans rfl; have hz6_1 : w8.cell? ⟨g6, 1, none⟩ = some (.int .i64 0) := (blk_cell HK6.out 1).trans rfl; have hf6_1 := blk_frozen HK6.out 1; have hz9_1 : w8.cell? ⟨g9, 1, none⟩ = some (.int .i64 b2) := (blk_cell HK9.out 1).trans rfl; have hz6_2 : w8.cell? ⟨g6, 2, none⟩ = some (.int .i64 0) := (blk_cell HK6.out 2).trans rfl; have hf6_2 := blk_frozen HK6.out 2; have hz9_2 : w8.cell? ⟨g9, 2, none⟩ = some (.int .i64 b3) := (blk_cell HK9.out 2).trans rfl; have hz6_3 : w8.cell? ⟨g6, 3, none⟩ = some (.bool false) := (blk_cell HK6.out 3).trans rfl; have hf6_3 := blk_frozen HK6.out 3; have hz9_3 : w8.cell? ⟨g9, 3, none⟩ = some (.bool b4) := (blk_cell HK9.out 3).trans rfl; have hz8_0 : w8.cell? ⟨g8, 0, none⟩ = some (.int .i64 (rd_T32 l0 i).f0) := (blk_cell HK8.out 0).trans rfl; have hz8_1 : w8.cell? ⟨g8, 1, none⟩ = some (.int .i64 at_) := (blk_cell HK8.out 1).trans (by rw [← HAT.out]; rfl); have hn69 : g6 ≠ g9 := (by have := HL8.out; have := HL9.out; omega); have hn68 : g6 ≠ g8 := (by have := HL8.out; omega))
            refine bodyPost_ret (results_ct rfl _ _ g6 34 #[.int .i64 b1, .int .i64 b2, .int .i64 b3, .bool b4] (0, 0) _ rfl (by refine blk_put (cs := #[.int .i64 b1, .int .i64 b2, .int .i64 b3, .bool false]) ?_ 3 _ rfl; refine blk_put (cs := #[.int .i64 b1, .int .i64 b2, .int .i64 0, .bool false]) ?_ 2 _ rfl; refine blk_put (cs := #[.int .i64 b1, .int .i64 0, .int .i64 0, .bool false]) ?_ 1 _ rfl; refine blk_put (cs := #[.int .i64 0, .int .i64 0, .int .i64 0, .bool false]) ?_ 0 _ rfl; exact HK6.out) Try.underlying34 rfl (by kernel_rfl)) rfl ?_
            exact ⟨by rw [HE.out]; rfl, below_set (below_set (below_set (below_set HB.out HG6.out) HG6.out) HG6.out) HG6.out⟩
          have d3 : decide (b3 < 0) = false := decide_eq_false h3
          have k1 : 0 ≤ at_ := by omega
          have k2 : at_ ≤ 64 := by omega
          by_cases h4 : b3 > 64 - at_
          · have HE := Aside0.mk (hE0 2 (if_pos (.inr (.inr (.inr h4)))))
            clear hE0
            have d4 : decide (64 - at_ < b3) = true := decide_eq_true h4
            clear h1 h2 h3 h4
            go_wp2_with ((with_reducible refine (HP.out).mono ?_); rintro e w8 ⟨rfl, hb⟩; have HB := Aside0.mk (below_step HB0.out hb); have HK6 := Aside0.mk (blk_below HK6.out hb); have HK8 := Aside0.mk (blk_below HK8.out hb); have HK9 := Aside0.mk (blk_below HK9.out hb); clear hb; have hz6_0 : w8.cell? ⟨g6, 0, none⟩ = some (.int .i64 0) := (blk_cell HK6.out 0).trans rfl; have hf6_0 := blk_frozen HK6.out 0; have hz9_0 : w8.cell? ⟨g9, 0, none⟩ = some (.int .i64 b1) := (blk_cell HK9.out 0).trans rfl; have hz6_1 : w8.cell? ⟨g6, 1, none⟩ = some (.int .i64 0) := (blk_cell HK6.out 1).trans rfl; have hf6_1 := blk_frozen HK6.out 1; have hz9_1 : w8.cell? ⟨g9, 1, none⟩ = some (.int .i64 b2) := (blk_cell HK9.out 1).trans rfl; have hz6_2 : w8.cell? ⟨g6, 2, none⟩ = some (.int .i64 0) := (blk_cell HK6.out 2).trans rfl; have hf6_2 := blk_frozen HK6.out 2; have hz9_2 : w8.cell? ⟨g9, 2, none⟩ = some (.int .i64 b3) := (blk_cell HK9.out 2).trans rfl; have hz6_3 : w8.cell? ⟨g6, 3, none⟩ = some (.bool false) := (blk_cell HK6.out 3).trans rfl; have hf6_3 := blk_frozen HK6.out 3; have hz9_3 : w8.cell? ⟨g9, 3, none⟩ = some (.bool b4) := (blk_cell HK9.out 3).trans rfl; have hz8_0 : w8.cell? ⟨g8, 0, none⟩ = some (.int .i64 (rd_T32 l0 i).f0) := (blk_cell HK8.out 0).trans rfl; have hz8_1 : w8.cell? ⟨g8, 1, none⟩ = some (.int .i64 at_) := (blk_cell HK8.out 1).trans (by rw [← HAT.out]; rfl); have hn69 : g6 ≠ g9 := (by have := HL8.out; have := HL9.out; omega); have hn68 : g6 ≠ g8 := (by have := HL8.out; omega))
            refine bodyPost_ret (results_ct rfl _ _ g6 34 #[.int .i64 b1, .int .i64 b2, .int .i64 b3, .bool b4] (0, 0) _ rfl (by refine blk_put (cs := #[.int .i64 b1, .int .i64 b2, .int .i64 b3, .bool false]) ?_ 3 _ rfl; refine blk_put (cs := #[.int .i64 b1, .int .i64 b2, .int .i64 0, .bool false]) ?_ 2 _ rfl; refine blk_put (cs := #[.int .i64 b1, .int .i64 0, .int .i64 0, .bool false]) ?_ 1 _ rfl; refine blk_put (cs := #[.int .i64 0, .int .i64 0, .int .i64 0, .bool false]) ?_ 0 _ rfl; exact HK6.out) Try.underlying34 rfl (by kernel_rfl)) rfl ?_
            exact ⟨by rw [HE.out]; rfl, below_set (below_set (below_set (below_set HB.out HG6.out) HG6.out) HG6.out) HG6.out⟩
          · have HE := Aside0.mk (hE0 0 (if_neg (by rintro (h | h | h | h) <;> first | exact h1 h | exact h2 h | exact h3 h | exact h4 h)))
            clear hE0
            have d4 : decide (64 - at_ < b3) = false := decide_eq_false h4
            clear h1 h2 h3 h4
            go_wp2_with ((with_reducible refine (HP.out).mono ?_); rintro e w8 ⟨rfl, hb⟩; have HB := Aside0.mk (below_step HB0.out hb); have HK6 := Aside0.mk (blk_below HK6.out hb); have HK8 := Aside0.mk (blk_below HK8.out hb); have HK9 := Aside0.mk (blk_below HK9.out hb); clear hb; have hz6_0 : w8.cell? ⟨g6, 0, none⟩ = some (.int .i64 0) := (blk_cell HK6.out 0).trans rfl; have hf6_0 := blk_frozen HK6.out 0; have hz9_0 : w8.cell? ⟨g9, 0, none⟩ = some (.int .i64 b1) := (blk_cell HK9.out 0).trans rfl; have hz6_1 : w8.cell? ⟨g6, 1, none⟩ = some (.int .i64 0) := (blk_cell HK6.out 1).trans rfl; have hf6_1 := blk_frozen HK6.out 1; have hz9_1 : w8.cell? ⟨g9, 1, none⟩ = some (.int .i64 b2) := (blk_cell HK9.out 1).trans rfl; have hz6_2 : w8.cell? ⟨g6, 2, none⟩ = some (.int .i64 0) := (blk_cell HK6.out 2).trans rfl; have hf6_2 := blk_frozen HK6.out 2; have hz9_2 : w8.cell? ⟨g9, 2, none⟩ = some (.int .i64 b3) := (blk_cell HK9.out 2).trans rfl; have hz6_3 : w8.cell? ⟨g6, 3, none⟩ = some (.bool false) := (blk_cell HK6.out 3).trans rfl; have hf6_3 := blk_frozen HK6.out 3; have hz9_3 : w8.cell? ⟨g9, 3, none⟩ = some (.bool b4) := (blk_cell HK9.out 3).trans rfl; have hz8_0 : w8.cell? ⟨g8, 0, none⟩ = some (.int .i64 (rd_T32 l0 i).f0) := (blk_cell HK8.out 0).trans rfl; have hz8_1 : w8.cell? ⟨g8, 1, none⟩ = some (.int .i64 at_) := (blk_cell HK8.out 1).trans (by rw [← HAT.out]; rfl); have hn69 : g6 ≠ g9 := (by have := HL8.out; have := HL9.out; omega); have hn68 : g6 ≠ g8 := (by have := HL8.out; omega))
            refine bodyPost_ret (results_ct rfl _ _ g6 34 #[.int .i64 b1, .int .i64 b2, .int .i64 b3, .bool b4] (0, 0) _ rfl (by refine blk_put (cs := #[.int .i64 b1, .int .i64 b2, .int .i64 b3, .bool false]) ?_ 3 _ rfl; refine blk_put (cs := #[.int .i64 b1, .int .i64 b2, .int .i64 0, .bool false]) ?_ 2 _ rfl; refine blk_put (cs := #[.int .i64 b1, .int .i64 0, .int .i64 0, .bool false]) ?_ 1 _ rfl; refine blk_put (cs := #[.int .i64 0, .int .i64 0, .int .i64 0, .bool false]) ?_ 0 _ rfl; exact HK6.out) Try.underlying34 rfl (by kernel_rfl)) rfl ?_
            exact ⟨by rw [HE.out]; rfl, below_set (below_set (below_set (below_set HB.out HG6.out) HG6.out) HG6.out) HG6.out⟩


end Go.Proofs.Ytojcflaghicdiaa.Own

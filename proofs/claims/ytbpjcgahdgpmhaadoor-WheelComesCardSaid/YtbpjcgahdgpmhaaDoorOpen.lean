/- How an argument that is a slice of acts is read as a list. No condition beyond those that each statement names. -/
import Derived.Test.YtbpjcgahdgpmhaaDoorWheel8
import Derived.Deep.Slices
import Derived.ChangeSame
import Derived.SizedLaws
namespace Go.Proofs.YtbpjcgahdgpmhaaDoor.Whl
open Go.RowKit Go.ChangeShapes Go.WideShapes Go.Deep Go.Proofs.YtbpjcgahdgpmhaaDoorW.PrintWords Go.Proofs.YtbpjcgahdgpmhaaDoorW.PrintLast Go.Proofs.YtbpjcgahdgpmhaaDoorW.PrintMore
set_option linter.unusedVariables false
abbrev Act3 := Int × Int × Int
section
variable {H : Type} {enc : TypeId × Value → H} {P : Program} {w : World} {base : Nat} {spare : Nat → Bool} {held : Bool}
/-- An argument that is a slice, read as a list: each element by its own reading. -/
theorem open_kd {α : Type} (d : Kd α) (Good : α → Prop) {t e : TypeId} {fuel : Nat} {cs : List Value} {x : DataW H × List MemPlace} (ht : P.underlying t = some (.slice e)) (hsz : P.cellsOf e = d.sz)
    (hel : ∀ n cs' y, DataW.trod enc P w base spare held n e cs' = some y → cs'.length = P.cellsOf e → ∃ z, d.K w z cs' ∧ Good z) (h : DataW.trod enc P w base spare held fuel t cs = some x) :
    ∃ (A : Option Addr) (len cap : Nat) (zs : List α), cs = [.slice A len cap] ∧ len ≤ cap ∧ cap ≤ maxLen ∧ zs.length = len ∧ d.C w A len zs ∧ (∀ z ∈ zs, Good z) ∧
      (x.1 = .nil ∧ len = 0 ∨ ∃ el sp, x.1 = .slice el sp ∧ el.length = len) := by
  rcases open_slice ht h with ⟨rfl, rfl⟩ | ⟨a, len, cap, m, n, D, Pl, rfl, hb, hl, hm, hmm, rfl, hx⟩
  · exact ⟨none, 0, 0, [], rfl, Nat.le_refl _, Nat.zero_le _, rfl, d.C_nil w, by simp, .inl ⟨rfl, rfl⟩⟩
  · have hlm : len ≤ m := by rw [hmm]; split <;> omega
    have hz : ∀ k, k ≤ len → ∃ zs : List α, zs.length = k ∧ (∀ z ∈ zs, Good z) ∧ ∀ j p, zs[j]? = some p → ∃ c, c.length = d.sz ∧ d.K w p c ∧ ∀ i u, c[i]? = some u → w.cell? (a.add (j * d.sz + i)) = some u := by
      intro k
      induction k with
      | zero => intro _; exact ⟨[], rfl, by simp, fun j p hp => by simp at hp⟩
      | succ k ih =>
        intro hk
        obtain ⟨zs, h1, h2, h3⟩ := ih (by omega)
        obtain ⟨cs', hc, ht'⟩ := hx k (by omega)
        obtain ⟨_, hcl, hat⟩ := World.cells?_some hc
        obtain ⟨z, hK, hG⟩ := hel n cs' _ ht' hcl
        refine ⟨zs ++ [z], by simp [h1], ?_, ?_⟩
        · intro q hq
          rcases List.mem_append.1 hq with hq | hq
          · exact h2 q hq
          · rw [List.mem_singleton.1 hq]; exact hG
        · intro j p hp
          by_cases hj : j < k
          · rw [List.getElem?_append_left (by omega)] at hp
            exact h3 j p hp
          · have hjl : j < (zs ++ [z]).length := (List.getElem?_eq_some_iff.1 hp).1
            simp at hjl
            have hjk : j = k := by omega
            subst hjk
            rw [List.getElem?_append_right (by omega), h1] at hp
            simp at hp
            subst hp
            refine ⟨cs', hcl.trans hsz, hK, fun i u hu => ?_⟩
            have hi : i < cs'.length := (List.getElem?_eq_some_iff.1 hu).1
            have := hat (i := i) (by omega)
            rw [← Go.Deep.add_add, ← hsz]
            rw [this]; exact hu
    obtain ⟨zs, h1, h2, h3⟩ := hz len (Nat.le_refl _)
    refine ⟨some a, len, cap, zs, rfl, hl, hm, h1, ⟨h1, by unfold maxLen at hm; omega, fun _ => ⟨a, rfl, h3⟩⟩, h2, .inr ⟨_, _, rfl, by simp⟩⟩
end
/-- Its length is paid by the row's weight. -/
theorem sized_kd {H : Type} {P : Program} {ts : List TypeId} {ds : List (DataW H)} {j : Nat} {t e : TypeId} {len B : Nat} {x1 : DataW H} (hsz : (DataW.weightsEach P ts ds).all (· ≤ reachBytes) = true) (ht : ts[j]? = some t) (hd : ds[j]? = some x1)
    (hu : P.underlying t = some (.slice e)) (hB : P.bytesOf e = B) (h : x1 = .nil ∧ len = 0 ∨ ∃ el sp, x1 = .slice el sp ∧ el.length = len) : len * B ≤ 140737488351232 := by
  rcases h with ⟨_, rfl⟩ | ⟨el, sp, rfl, rfl⟩
  · simp
  · have z := sized_slice hsz ht hd hu
    rw [hB] at z
    exact Nat.le_trans (Nat.mul_le_mul_right _ (Nat.le_add_right _ _)) z

def kA : Kd Act3 := Kd.pair (Kd.int .u8) (Kd.pair (Kd.int .i64) (Kd.int .i64))
theorem kA_open {w : World} {x : Act3} {cs : List Value} (h : kA.K w x cs) : cs = [.int .u8 x.1, .int .i64 x.2.1, .int .i64 x.2.2] := by
  obtain ⟨c1, c2, rfl, h1, h2⟩ := h
  obtain ⟨c3, c4, rfl, h3, h4⟩ := h2
  obtain rfl := h1
  obtain rfl := h3
  obtain rfl := h4
  rfl
theorem kA_mk (w : World) (x : Act3) : kA.K w x [.int .u8 x.1, .int .i64 x.2.1, .int .i64 x.2.2] := ⟨[.int .u8 x.1], [.int .i64 x.2.1, .int .i64 x.2.2], rfl, rfl, [.int .i64 x.2.1], [.int .i64 x.2.2], rfl, rfl, rfl⟩
def gA (x : Act3) : Prop := (Lit.int .u8 x.1).wf = true ∧ (Lit.int .i64 x.2.1).wf = true ∧ (Lit.int .i64 x.2.2).wf = true
theorem elA {H : Type} {enc : TypeId × Value → H} {w : World} {base : Nat} {spare : Nat → Bool} {held : Bool} (n : Nat) (cs : List Value) (y : DataW H × List MemPlace) (h : DataW.trod enc Tryd.prog w base spare held n 28 cs = some y) (hl : cs.length = Tryd.prog.cellsOf 28) : ∃ z, kA.K w z cs ∧ gA z := by
  obtain ⟨xs, m, _, _, _, hlen, hf⟩ := DataW.trod_struct Tryd.underlying28 h
  have hcs : cs.length = 3 := hl.trans (by kernel_rfl)
  match cs, hcs with
  | [c0, c1, c2], _ =>
    match xs, hlen with
    | [y0, y1, y2], _ =>
      have q0 : Tryd.prog.cellsOf 5 = 1 := by kernel_rfl
      have h0 : DataW.trod enc Tryd.prog w base spare held m 5 (List.take (Tryd.prog.cellsOf 5) (List.drop 0 [c0, c1, c2])) = some y0 := hf 0 _ rfl
      rw [q0] at h0
      replace h0 : DataW.trod enc Tryd.prog w base spare held m 5 [c0] = some y0 := h0
      obtain ⟨x0, e0, _, w0⟩ := DataW.trod_int Tryd.underlying5 h0
      have B0 : c0 = .int .u8 x0 := by injection e0
      have q1 : Tryd.prog.cellsOf 3 = 1 := by kernel_rfl
      have h1 : DataW.trod enc Tryd.prog w base spare held m 3 (List.take (Tryd.prog.cellsOf 3) (List.drop 1 [c0, c1, c2])) = some y1 := hf 1 _ rfl
      rw [q1] at h1
      replace h1 : DataW.trod enc Tryd.prog w base spare held m 3 [c1] = some y1 := h1
      obtain ⟨x1, e1, _, w1⟩ := DataW.trod_int Tryd.underlying3 h1
      have B1 : c1 = .int .i64 x1 := by injection e1
      have h2 : DataW.trod enc Tryd.prog w base spare held m 3 (List.take (Tryd.prog.cellsOf 3) (List.drop 2 [c0, c1, c2])) = some y2 := hf 2 _ rfl
      rw [q1] at h2
      replace h2 : DataW.trod enc Tryd.prog w base spare held m 3 [c2] = some y2 := h2
      obtain ⟨x2, e2, _, w2⟩ := DataW.trod_int Tryd.underlying3 h2
      have B2 : c2 = .int .i64 x2 := by injection e2
      subst B0 B1 B2
      exact ⟨⟨x0, x1, x2⟩, kA_mk w ⟨x0, x1, x2⟩, w0, w1, w2⟩
/-- A list of acts in memory: each act's three cells. -/
structure Acts (w : World) (A : Option Addr) (l : List Act3) : Prop where
  el : ∀ i, i < l.length → ∃ ad, A = some ad ∧ w.cell? (ad.add (i * 3)) = some (.int .u8 (l.getD i (0, 0, 0)).1) ∧ w.cell? ⟨(ad.add (i * 3)).block, (ad.add (i * 3)).off + 1, none⟩ = some (.int .i64 (l.getD i (0, 0, 0)).2.1) ∧ w.cell? ⟨(ad.add (i * 3)).block, (ad.add (i * 3)).off + 2, none⟩ = some (.int .i64 (l.getD i (0, 0, 0)).2.2)
theorem Acts.below {w w' : World} {A : Option Addr} {l : List Act3} (h : Acts w A l) (hb : Below w.heap.size w w') : Acts w' A l := ⟨fun i hi => by
  obtain ⟨ad, e, h1, h2, h3⟩ := h.el i hi
  exact ⟨ad, e, (hb.cell (World.block_lt_of_cell? w _ h1)).trans h1, (hb.cell (World.block_lt_of_cell? w _ h2)).trans h2, (hb.cell (World.block_lt_of_cell? w _ h3)).trans h3⟩⟩
theorem acts_of {w : World} {A : Option Addr} {n : Nat} {l : List Act3} (h : kA.C w A n l) : Acts w A l := ⟨fun i hi => by
  obtain ⟨hn, _, hc⟩ := h
  obtain ⟨ad, e, hx⟩ := hc (by omega)
  obtain ⟨c, hcl, hK, hat⟩ := hx i _ (List.getElem?_eq_getElem hi)
  obtain rfl := kA_open hK
  have e0 : l.getD i (0, 0, 0) = l[i] := by rw [List.getD_eq_getElem?_getD, List.getElem?_eq_getElem hi]; rfl
  rw [e0]
  have g0 := hat 0 _ rfl
  have g1 := hat 1 _ rfl
  have g2 := hat 2 _ rfl
  exact ⟨ad, e, g0, by rw [← add_field _ _ 1 (by omega)]; exact g1, by rw [← add_field _ _ 2 (by omega)]; exact g2⟩⟩
theorem gA_get {l : List Act3} (h : ∀ x ∈ l, gA x) (i : Nat) : gA (l.getD i (0, 0, 0)) := by
  by_cases hi : i < l.length
  · have e0 : l.getD i (0, 0, 0) = l[i] := by rw [List.getD_eq_getElem?_getD, List.getElem?_eq_getElem hi]; rfl
    rw [e0]
    exact h _ (List.getElem_mem hi)
  · have e0 : l.getD i (0, 0, 0) = (0, 0, 0) := by rw [List.getD_eq_getElem?_getD, List.getElem?_eq_none (by omega)]; rfl
    rw [e0]
    exact ⟨rfl, rfl, rfl⟩
end Go.Proofs.YtbpjcgahdgpmhaaDoor.Whl

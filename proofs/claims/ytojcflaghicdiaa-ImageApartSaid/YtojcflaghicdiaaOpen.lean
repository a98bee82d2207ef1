/- How arguments that are slices of structs or strings, or structs, are read as lists and records, and the pure statements of laws that take them. -/
import Derived.Test.YtojcflaghicdiaaOwnx0
import Derived.Test.YtojcflaghicdiaaOwnx4
import Derived.Test.YtojcflaghicdiaaOwnx5
import Derived.Test.YtojcflaghicdiaaOwnx7
import Derived.Deep.Slices
import Derived.ChangeSame
import Derived.SizedLaws
namespace Go.Proofs.Ytojcflaghicdiaa.Own
open Go.RowKit Go.ChangeShapes Go.WideShapes Go.Deep Go.Proofs.YtojcflaghicdiaaW.PrintWords Go.Proofs.YtojcflaghicdiaaW.PrintLast Go.Proofs.YtojcflaghicdiaaW.PrintMore
set_option linter.unusedVariables false
section
variable {H : Type} {enc : TypeId × Value → H} {P : Program} {w : World} {base : Nat} {spare : Nat → Bool} {held : Bool}
/-- An argument that is a slice, read as a list: each element by its own reading. -/
theorem open_kd {α : Type} (d : Kd α) (Good : α → Prop) {t e : TypeId} {fuel : Nat} {cs : List Value} {x : DataW H × List MemPlace} (ht : P.underlying t = some (.slice e)) (hsz : P.cellsOf e = d.sz)
    (hel : ∀ n cs' y, DataW.trod enc P w base spare held n e cs' = some y → cs'.length = P.cellsOf e → ∃ z, d.K w z cs' ∧ Good z) (h : DataW.trod enc P w base spare held fuel t cs = some x) :
    ∃ (A : Option Addr) (len cap : Nat) (zs : List α), cs = [.slice A len cap] ∧ len ≤ cap ∧ cap ≤ maxLen ∧ zs.length = len ∧ d.C w A len zs ∧ (∀ z ∈ zs, Good z) ∧
      (x.1 = .nil ∧ len = 0 ∨ ∃ el sp, x.1 = .slice el sp ∧ el.length = len) := by
  rcases open_slice ht h with ⟨rfl, rfl⟩ | ⟨a, len, cap, m, n, D, Pl, rfl, hb, hl, hm, hmm, rfl, hx⟩
  · exact ⟨none, 0, 0, [], rfl, Nat.le_refl _, Nat.zero_le _, rfl, d.C_nil w, by simp, .inl ⟨rfl, rfl⟩⟩
  · have hlm : len ≤ m := by rw [hmm]; split <;> omega
    have hz : ∀ k, k ≤ len → ∃ zs : List α, zs.length = k ∧ (∀ z ∈ zs, Good z) ∧ ∀ j p, zs[j]? = some p → ∃ c, c.length = d.sz ∧ d.K w p c ∧ ∀ i u, c[i]? = some u → w.cell? (a.add (j * d.sz + i)) = some u := by
      intro k
      induction k with
      | zero => intro _; exact ⟨[], rfl, by simp, fun j p hp => by simp at hp⟩
      | succ k ih =>
        intro hk
        obtain ⟨zs, h1, h2, h3⟩ := ih (by omega)
        obtain ⟨cs', hc, ht'⟩ := hx k (by omega)
        obtain ⟨_, hcl, hat⟩ := World.cells?_some hc
        obtain ⟨z, hK, hG⟩ := hel n cs' _ ht' hcl
        refine ⟨zs ++ [z], by simp [h1], ?_, ?_⟩
        · intro q hq
          rcases List.mem_append.1 hq with hq | hq
          · exact h2 q hq
          · rw [List.mem_singleton.1 hq]; exact hG
        · intro j p hp
          by_cases hj : j < k
          · rw [List.getElem?_append_left (by omega)] at hp
            exact h3 j p hp
          · have hjl : j < (zs ++ [z]).length := (List.getElem?_eq_some_iff.1 hp).1
            simp at hjl
            have hjk : j = k := by omega
            subst hjk
            rw [List.getElem?_append_right (by omega), h1] at hp
            simp at hp
            subst hp
            refine ⟨cs', hcl.trans hsz, hK, fun i u hu => ?_⟩
            have hi : i < cs'.length := (List.getElem?_eq_some_iff.1 hu).1
            have := hat (i := i) (by omega)
            rw [← Go.Deep.add_add, ← hsz]
            rw [this]; exact hu
    obtain ⟨zs, h1, h2, h3⟩ := hz len (Nat.le_refl _)
    refine ⟨some a, len, cap, zs, rfl, hl, hm, h1, ⟨h1, by unfold maxLen at hm; omega, fun _ => ⟨a, rfl, h3⟩⟩, h2, .inr ⟨_, _, rfl, by simp⟩⟩
end
/-- Its length is paid by the row's weight. -/
theorem sized_kd {H : Type} {P : Program} {ts : List TypeId} {ds : List (DataW H)} {j : Nat} {t e : TypeId} {len B : Nat} {x1 : DataW H} (hsz : (DataW.weightsEach P ts ds).all (· ≤ reachBytes) = true) (ht : ts[j]? = some t) (hd : ds[j]? = some x1)
    (hu : P.underlying t = some (.slice e)) (hB : P.bytesOf e = B) (h : x1 = .nil ∧ len = 0 ∨ ∃ el sp, x1 = .slice el sp ∧ el.length = len) : len * B ≤ 140737488351232 := by
  rcases h with ⟨_, rfl⟩ | ⟨el, sp, rfl, rfl⟩
  · simp
  · have z := sized_slice hsz ht hd hu
    rw [hB] at z
    exact Nat.le_trans (Nat.mul_le_mul_right _ (Nat.le_add_right _ _)) z

def g32 (x : S32) : Prop := (Lit.int .i64 x.f0).wf = true ∧ (Lit.int .i64 x.f1).wf = true
theorem el32 {H : Type} {enc : TypeId × Value → H} {w : World} {base : Nat} {spare : Nat → Bool} {held : Bool} (n : Nat) (cs : List Value) (y : DataW H × List MemPlace) (h : DataW.trod enc Try.prog w base spare held n 32 cs = some y) (hl : cs.length = Try.prog.cellsOf 32) : ∃ z, k32.K w z cs ∧ g32 z := by
  obtain ⟨xs, m, _, _, _, hlen, hf⟩ := DataW.trod_struct Try.underlying32 h
  have hcs : cs.length = 2 := hl.trans (by kernel_rfl)
  match cs, hcs with
  | [c0, c1], _ =>
    match xs, hlen with
    | [y0, y1], _ =>
      have q0 : Try.prog.cellsOf 3 = 1 := by kernel_rfl
      have h0 : DataW.trod enc Try.prog w base spare held m 3 (List.take (Try.prog.cellsOf 3) (List.drop 0 [c0, c1])) = some y0 := hf 0 _ rfl
      rw [q0] at h0
      replace h0 : DataW.trod enc Try.prog w base spare held m 3 [c0] = some y0 := h0
      obtain ⟨x0, e0, _, w0⟩ := DataW.trod_int Try.underlying3 h0
      have B0 : c0 = .int .i64 x0 := by injection e0
      have q1 : Try.prog.cellsOf 3 = 1 := by kernel_rfl
      have h1 : DataW.trod enc Try.prog w base spare held m 3 (List.take (Try.prog.cellsOf 3) (List.drop 1 [c0, c1])) = some y1 := hf 1 _ rfl
      rw [q1] at h1
      replace h1 : DataW.trod enc Try.prog w base spare held m 3 [c1] = some y1 := h1
      obtain ⟨x1, e1, _, w1⟩ := DataW.trod_int Try.underlying3 h1
      have B1 : c1 = .int .i64 x1 := by injection e1
      subst B0 B1
      exact ⟨⟨x0, x1⟩, k32_mk w ⟨x0, x1⟩, ⟨w0, w1⟩⟩
def g34 (x : S34) : Prop := (Lit.int .i64 x.f0).wf = true ∧ (Lit.int .i64 x.f1).wf = true ∧ (Lit.int .i64 x.f2).wf = true
theorem el34 {H : Type} {enc : TypeId × Value → H} {w : World} {base : Nat} {spare : Nat → Bool} {held : Bool} (n : Nat) (cs : List Value) (y : DataW H × List MemPlace) (h : DataW.trod enc Try.prog w base spare held n 34 cs = some y) (hl : cs.length = Try.prog.cellsOf 34) : ∃ z, k34.K w z cs ∧ g34 z := by
  obtain ⟨xs, m, _, _, _, hlen, hf⟩ := DataW.trod_struct Try.underlying34 h
  have hcs : cs.length = 4 := hl.trans (by kernel_rfl)
  match cs, hcs with
  | [c0, c1, c2, c3], _ =>
    match xs, hlen with
    | [y0, y1, y2, y3], _ =>
      have q0 : Try.prog.cellsOf 3 = 1 := by kernel_rfl
      have h0 : DataW.trod enc Try.prog w base spare held m 3 (List.take (Try.prog.cellsOf 3) (List.drop 0 [c0, c1, c2, c3])) = some y0 := hf 0 _ rfl
      rw [q0] at h0
      replace h0 : DataW.trod enc Try.prog w base spare held m 3 [c0] = some y0 := h0
      obtain ⟨x0, e0, _, w0⟩ := DataW.trod_int Try.underlying3 h0
      have B0 : c0 = .int .i64 x0 := by injection e0
      have q1 : Try.prog.cellsOf 3 = 1 := by kernel_rfl
      have h1 : DataW.trod enc Try.prog w base spare held m 3 (List.take (Try.prog.cellsOf 3) (List.drop 1 [c0, c1, c2, c3])) = some y1 := hf 1 _ rfl
      rw [q1] at h1
      replace h1 : DataW.trod enc Try.prog w base spare held m 3 [c1] = some y1 := h1
      obtain ⟨x1, e1, _, w1⟩ := DataW.trod_int Try.underlying3 h1
      have B1 : c1 = .int .i64 x1 := by injection e1
      have q2 : Try.prog.cellsOf 3 = 1 := by kernel_rfl
      have h2 : DataW.trod enc Try.prog w base spare held m 3 (List.take (Try.prog.cellsOf 3) (List.drop 2 [c0, c1, c2, c3])) = some y2 := hf 2 _ rfl
      rw [q2] at h2
      replace h2 : DataW.trod enc Try.prog w base spare held m 3 [c2] = some y2 := h2
      obtain ⟨x2, e2, _, w2⟩ := DataW.trod_int Try.underlying3 h2
      have B2 : c2 = .int .i64 x2 := by injection e2
      have q3 : Try.prog.cellsOf 4 = 1 := by kernel_rfl
      have h3 : DataW.trod enc Try.prog w base spare held m 4 (List.take (Try.prog.cellsOf 4) (List.drop 3 [c0, c1, c2, c3])) = some y3 := hf 3 _ rfl
      rw [q3] at h3
      replace h3 : DataW.trod enc Try.prog w base spare held m 4 [c3] = some y3 := h3
      obtain ⟨x3, e3, _⟩ := DataW.trod_bool Try.underlying4 h3
      have B3 : c3 = .bool x3 := by injection e3
      subst B0 B1 B2 B3
      exact ⟨⟨x0, x1, x2, x3⟩, k34_mk w ⟨x0, x1, x2, x3⟩, ⟨w0, w1, w2⟩⟩
def fuglemanlaw19_ImageInputs.Pure : Prop := ∀ (a0 : Int) (l1 : List (S32)) (l2 : List ByteArray), (Lit.int .i64 a0).wf = true → l1.length ≤ maxLen → l1.length * 16 ≤ 140737488351232 → (∀ x ∈ l1, (g32) x) → l2.length ≤ maxLen → l2.length * 16 ≤ 140737488351232 → (∀ x ∈ l2, (fun x : ByteArray => x.size ≤ maxLen) x) → ∃ k, fuglemanlaw19_ImageInputs.f k a0 l1 l2 = some true
def fuglemanlaw19_ImageApart.Pure : Prop := ∀ (a0 : Int) (l1 : List (S32)) (l2 : List (S34)), (Lit.int .i64 a0).wf = true → l1.length ≤ maxLen → l1.length * 16 ≤ 140737488351232 → (∀ x ∈ l1, (g32) x) → l2.length ≤ maxLen → l2.length * 32 ≤ 140737488351232 → (∀ x ∈ l2, (g34) x) → ∃ k, fuglemanlaw19_ImageApart.f k a0 l1 l2 = some true
def fuglemanlaw19_ImageLays.Pure : Prop := ∀ (a0 : Int) (l1 : List (S32)) (l2 : List (S34)), (Lit.int .i64 a0).wf = true → l1.length ≤ maxLen → l1.length * 16 ≤ 140737488351232 → (∀ x ∈ l1, (g32) x) → l2.length ≤ maxLen → l2.length * 32 ≤ 140737488351232 → (∀ x ∈ l2, (g34) x) → ∃ k, fuglemanlaw19_ImageLays.f k a0 l1 l2 = some true
end Go.Proofs.Ytojcflaghicdiaa.Own

/- frame.Encode and frame.Decode, in plain form. Conditions: those that each statement names. -/
import Derived.Test.YtkcaifpmceoflaaDoorPEnc
import Derived.Test.YtkcaifpmceoflaaDoorEqFr
namespace Go.Proofs.YtkcaifpmceoflaaDoor.Frm
open Go.RowKit Go.Proofs.YtkcaifpmceoflaaDoorW.PrintWords Go.Proofs.YtkcaifpmceoflaaDoorW.PrintLast Go.Proofs.YtkcaifpmceoflaaDoorW.PrintMore
set_option linter.unusedVariables false
set_option linter.unusedSimpArgs false
theorem shape_1 : Own.frame_shapes.f 1 = some (⟨#[116, 111, 107, 101, 110]⟩, true, 17, 17, true) := rfl
theorem shape_2 : Own.frame_shapes.f 2 = some (⟨#[112, 111, 108, 108]⟩, true, 17, 17, true) := rfl
theorem shape_3 : Own.frame_shapes.f 3 = some (⟨#[115, 116, 97, 116, 117, 115]⟩, true, 23, 23, true) := rfl
theorem shape_4 : Own.frame_shapes.f 4 = some (⟨#[100, 97, 116, 97]⟩, false, 27, 42, true) := rfl
theorem shape_5 : Own.frame_shapes.f 5 = some (⟨#[108, 101, 97, 118, 101]⟩, true, 17, 17, true) := rfl
theorem shape_no (k : Int) (h : ¬ (1 ≤ k ∧ k ≤ 5)) : Own.frame_shapes.f k = some (⟨#[63]⟩, true, 0, 0, false) := by
  unfold Own.frame_shapes.f
  rw [if_neg (by omega), if_neg (by omega), if_neg (by omega), if_neg (by omega), if_neg (by omega)]
/-- What a kind's row says, in one piece. -/
theorem shape_ok (k : Int) (h : 1 ≤ k ∧ k ≤ 5) : ∃ n t a b, Own.frame_shapes.f k = some (n, t, a, b, true) ∧ 0 ≤ a ∧ a ≤ 1000 ∧ (k = 3 → a = 23 ∧ b = 23) ∧ (k = 4 → a = 27 ∧ b = 42) ∧ (k ≠ 3 → k ≠ 4 → a = 17 ∧ b = 17) := by
  obtain rfl | rfl | rfl | rfl | rfl : k = 1 ∨ k = 2 ∨ k = 3 ∨ k = 4 ∨ k = 5 := by omega
  · exact ⟨_, _, _, _, shape_1, by omega, by omega, fun h => absurd h (by decide), fun h => absurd h (by decide), fun _ _ => ⟨rfl, rfl⟩⟩
  · exact ⟨_, _, _, _, shape_2, by omega, by omega, fun h => absurd h (by decide), fun h => absurd h (by decide), fun _ _ => ⟨rfl, rfl⟩⟩
  · exact ⟨_, _, _, _, shape_3, by omega, by omega, fun _ => ⟨rfl, rfl⟩, fun h => absurd h (by decide), fun h => absurd rfl h⟩
  · exact ⟨_, _, _, _, shape_4, by omega, by omega, fun h => absurd h (by decide), fun _ => ⟨rfl, rfl⟩, fun _ h => absurd rfl h⟩
  · exact ⟨_, _, _, _, shape_5, by omega, by omega, fun h => absurd h (by decide), fun h => absurd h (by decide), fun _ _ => ⟨rfl, rfl⟩⟩
theorem size_r (w : World) (f : Fr) (h : right f = true) : Calls Tryd.prog 14 #[.agg (FC f)] w fun e w' => e = .returned (.int .i64 (zsz f)) ∧ Below w.heap.size w w' := by
  obtain ⟨h1, h2, h3, h4⟩ := right_parts f h
  obtain ⟨n, t, a, b, hs, ha, hb, e3, e4, e5⟩ := shape_ok f.kind h1
  have hbs : f.bytes.size ≤ 16 := by
    by_cases k4 : f.kind = 4
    · have := bare_4 f h4 k4; omega
    · have := bare_no4 f h4 k4; omega
  have e : a + mx ((f.bytes.size : Int) - 1) 0 = zsz f := by
    unfold zsz mx
    by_cases k3 : f.kind = 3
    · have := bare_3 f h4 k3
      have := e3 k3
      rw [if_pos k3]
      split <;> omega
    · rw [if_neg k3]
      by_cases k4 : f.kind = 4
      · have := bare_4 f h4 k4
        have := e4 k4
        rw [if_pos k4]
        split <;> omega
      · have := bare_no4 f h4 k4
        have := e5 k3 k4
        rw [if_neg k4]
        split <;> omega
  rw [← e]
  exact size_yes w f h n t true a b hs ⟨ha, hb⟩ (by omega)
theorem right_small (f : Fr) (h : right f = true) : f.bytes.size ≤ 16 := by
  obtain ⟨h1, h2, h3, h4⟩ := right_parts f h
  by_cases k4 : f.kind = 4
  · have := bare_4 f h4 k4; omega
  · have := bare_no4 f h4 k4; omega
theorem insd_le (f : Fr) (h : right f = true) : (insd f).size ≤ 40 := by
  have h1 := insd_size f h
  have h2 := zsz_rng f h
  omega
theorem enc_r (w : World) (f : Fr) (h : right f = true) : Calls Tryd.prog 9 #[.agg (FC f)] w fun e w' => e = .returned (.tuple #[.string (encs f), .int .i64 0]) ∧ Below w.heap.size w w' :=
  encode_yes w f h (zsz f) (fun W => size_r W f h) (by have := right_small f h; omega) (encs f) _ (sealed_z (insd f) (by have := insd_le f h; omega))
instance (s : ByteArray) : Decidable (isLen s) := by unfold isLen; infer_instance
/-- The error that Decode answers. -/
def derr (s : ByteArray) : Int :=
  if isLen s then
    if crc s = 0#16 then
      if 1 ≤ nat s 0 1 ∧ nat s 0 1 ≤ 5 then
        if okSize (nat s 0 1) s.size then
          if rdb (ahead s) = true ∧ right (rdf (ahead s)) = true then 0 else 3
        else 10
      else 11
    else 9
  else 10
/-- The frame. -/
def decf (s : ByteArray) : Fr := if derr s = 0 then rdf (ahead s) else fz
theorem dec_f (w : World) (s : ByteArray) (hs : s.size ≤ 1000000) : Calls Tryd.prog 15 #[.string s] w fun e w' => e = .returned (.tuple #[.agg (FC (decf s)), .int .i64 (derr s)]) ∧ Below w.heap.size w w' := by
  unfold decf derr
  by_cases hl : isLen s
  · rw [if_pos hl]
    have hl2 := hl
    unfold isLen at hl2
    by_cases hc : crc s = 0#16
    · have ho := open_yes s hs (by omega) hc
      rw [if_pos hc]
      by_cases hk : 1 ≤ nat s 0 1 ∧ nat s 0 1 ≤ 5
      · rw [if_pos hk]
        obtain ⟨n, t, a, b, hsh, ha, hb, e3, e4, e5⟩ := shape_ok _ hk
        by_cases hz : okSize (nat s 0 1) s.size
        · rw [if_pos hz]
          have hab : a ≤ s.size ∧ (s.size : Int) ≤ b := by
            unfold okSize at hz
            by_cases k3 : nat s 0 1 = 3
            · have := e3 k3
              omega
            · by_cases k4 : nat s 0 1 = 4
              · have := e4 k4
                omega
              · have := e5 k3 k4
                omega
          have hy := ahead_size s
          have h0 : nat (ahead s) 0 1 = nat s 0 1 := ahead_nat s 0 1 (by omega)
          have y3 : nat (ahead s) 0 1 = 3 → 21 ≤ (ahead s).size := fun h => by
            have := e3 (h0.symm.trans h)
            omega
          have y4 : nat (ahead s) 0 1 = 4 → 24 ≤ (ahead s).size := fun h => by
            have := e4 (h0.symm.trans h)
            omega
          cases hb2 : rdb (ahead s) with
          | false =>
            rw [if_neg (by simp)]
            exact dec_read w s (ahead s) _ hl ho n t a b hsh hab (by omega) y3 y4 hb2
          | true =>
            cases hr : right (rdf (ahead s)) with
            | false =>
              rw [if_neg (by simp)]
              exact dec_right w s (ahead s) _ hl ho n t a b hsh hab (by omega) y3 y4 hb2 hr
            | true =>
              rw [if_pos (by simp)]
              exact dec_ok w s (ahead s) _ hl ho n t a b hsh hab (by omega) y3 y4 hb2 hr
        · rw [if_neg hz]
          refine dec_size w s _ _ hl ho n t a b hsh ?_
          intro hab
          apply hz
          unfold okSize
          by_cases k3 : nat s 0 1 = 3
          · have := e3 k3
            omega
          · by_cases k4 : nat s 0 1 = 4
            · have := e4 k4
              omega
            · have := e5 k3 k4
              omega
      · rw [if_neg hk]
        exact dec_kind w s _ _ hl ho _ _ _ _ (shape_no _ hk)
    · rw [if_neg hc]
      exact dec_crc w s _ _ hl (open_no s hs (by omega) hc)
  · rw [if_neg hl]
    exact dec_len w s hs hl
theorem encs_okSize (f : Fr) (hr : Rng f) (h : right f = true) : okSize (nat (encs f) 0 1) (encs f).size := by
  obtain ⟨h1, h2, h3, h4⟩ := right_parts f h
  have e1 : nat (encs f) 0 1 = f.kind := (encs_nat f hr h 0 1 (by omega)).trans (insd_kind f hr h)
  have e2 := encs_size f h
  rw [e1]
  unfold okSize
  unfold zsz at e2
  by_cases k3 : f.kind = 3
  · rw [if_pos k3] at e2
    omega
  · rw [if_neg k3] at e2
    by_cases k4 : f.kind = 4
    · rw [if_pos k4] at e2
      have := bare_4 f h4 k4
      omega
    · rw [if_neg k4] at e2
      omega
/-- What was encoded is decoded back. -/
theorem dec_encs (f : Fr) (hr : Rng f) (h : right f = true) : derr (encs f) = 0 ∧ decf (encs f) = f := by
  have e : ahead (encs f) = insd f := encs_cut f
  have e1 : nat (encs f) 0 1 = f.kind := (encs_nat f hr h 0 1 (by omega)).trans (insd_kind f hr h)
  obtain ⟨r1, r2⟩ := rdf_insd f hr h
  have h0 : derr (encs f) = 0 := by
    unfold derr
    rw [if_pos (encs_len f hr h), if_pos (encs_crc f), if_pos (by rw [e1]; exact (right_parts f h).1), if_pos (encs_okSize f hr h), e, r1, if_pos ⟨r2, h⟩]
  refine ⟨h0, ?_⟩
  unfold decf
  rw [if_pos h0, e, r1]
theorem encs_le (f : Fr) (h : right f = true) : 17 ≤ (encs f).size ∧ (encs f).size ≤ 42 := by
  have h1 := encs_size f h
  have h2 := zsz_rng f h
  omega
/-- Of another length than its second byte says: refused. -/
theorem derr_len (s : ByteArray) (h : ¬ isLen s) : derr s = 10 ∧ decf s = fz := by
  have h0 : derr s = 10 := by
    unfold derr
    rw [if_neg h]
  refine ⟨h0, ?_⟩
  unfold decf
  rw [if_neg (by rw [h0]; decide)]
theorem cut_len (f : Fr) (hr : Rng f) (h : right f = true) (n : Nat) (hn : n < (encs f).size) : ¬ isLen ((encs f).extract 0 n) := by
  intro hl
  unfold isLen at hl
  have h1 := encs_len f hr h
  unfold isLen at h1
  have h2 : ((encs f).extract 0 n).size = n := by rw [ByteArray.size_extract]; omega
  rw [h2, nat_cut _ n 1 1 (by omega)] at hl
  omega
theorem more_len (f : Fr) (hr : Rng f) (h : right f = true) (t : ByteArray) (ht : t.size ≠ 0) : ¬ isLen (encs f ++ t) := by
  intro hl
  unfold isLen at hl
  have h1 := encs_len f hr h
  unfold isLen at h1
  rw [nat_left _ _ 1 1 (by omega), ByteArray.size_append] at hl
  omega
end Go.Proofs.YtkcaifpmceoflaaDoor.Frm

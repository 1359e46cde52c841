/-
  SPECS, 18: the document's side of bytes: lengths, masks, frames (layers 8, 9, 10). Own work.
-/
import Derived.Test.YtjdnjlnfcbaokaaSp15
set_option linter.unusedVariables false
set_option linter.unusedSimpArgs false
set_option maxRecDepth 20000
namespace Go.Proofs.Ytjdnjlnfcbaokaa
open Go Go.Lg
variable {α β σ τ : Type} {ρ : Hp} {L M : As} {K : Nat}

/-! ### 1. Lengths -/
/-- as the document's text reads a length's further bytes -/
def ref8 (size : Nat) : List UInt8 → Nat → Nat → Bool → Nat × Nat × Nat
  | [], i, n, z => if i < size then (0, 0, 80) else (n, 1 + size, 0)
  | c :: t, i, n, z => if i < size then
      (if size = 8 ∧ i = 0 ∧ 128 ≤ c.toNat then (0, 0, 81)
      else if (size = 8 ∧ i = 5 ∧ (z && decide (c.toNat = 0)) = true) ∨ (size = 2 ∧ i = 1 ∧ 256 * n + c.toNat < 126) then (0, 0, 81)
      else ref8 size t (i + 1) (256 * n + c.toNat) (z && decide (c.toNat = 0)))
    else (n, 1 + size, 0)
theorem ref8_cons (size : Nat) (c : UInt8) (t : List UInt8) (i n : Nat) (z : Bool) : ref8 size (c :: t) i n z = if i < size then
      (if size = 8 ∧ i = 0 ∧ 128 ≤ c.toNat then (0, 0, 81)
      else if (size = 8 ∧ i = 5 ∧ (z && decide (c.toNat = 0)) = true) ∨ (size = 2 ∧ i = 1 ∧ 256 * n + c.toNat < 126) then (0, 0, 81)
      else ref8 size t (i + 1) (256 * n + c.toNat) (z && decide (c.toNat = 0)))
    else (n, 1 + size, 0) := rfl
theorem ref8_two (r : List UInt8) : ref8 2 r 0 0 true = (if valB (padB (r.take 2) 2 255) < 126 ∨ 65535 < valB (padB (r.take 2) 2 0) then (0, 0, 81) else if (r.take 2).length < 2 then (0, 0, 80) else (valB (r.take 2), 1 + 2, 0)) := by
  match r with
  | [] => decide
  | [a] =>
    have ha := u8lt a
    have e1 : valB (padB ([a].take 2) 2 255) = a.toNat * 256 + 255 := by simp [padB, valB]
    have e2 : valB (padB ([a].take 2) 2 0) = a.toNat * 256 := by simp [padB, valB]
    rw [e1, e2, if_neg (by omega)]
    simp [ref8]
  | a :: b :: t =>
    have ha := u8lt a
    have hb := u8lt b
    have e0 : (a :: b :: t).take 2 = [a, b] := rfl
    have e1 : valB (padB [a, b] 2 255) = a.toNat * 256 + b.toNat := by simp [padB, valB]
    have e2 : valB (padB [a, b] 2 0) = a.toNat * 256 + b.toNat := by simp [padB, valB]
    have e3 : valB [a, b] = a.toNat * 256 + b.toNat := by simp [valB]
    rw [e0, e1, e2, e3]
    have s1 : ref8 2 (a :: b :: t) 0 0 true = ref8 2 (b :: t) 1 (256 * 0 + a.toNat) (true && decide (a.toNat = 0)) := by
      conv => lhs; unfold ref8
      rw [if_pos (by omega), if_neg (by omega), if_neg (by omega)]
    have s2 : ∀ (n : Nat) (z : Bool), ref8 2 (b :: t) 1 n z = if 256 * n + b.toNat < 126 then (0, 0, 81) else ref8 2 t 2 (256 * n + b.toNat) (z && decide (b.toNat = 0)) := by
      intro n z
      conv => lhs; unfold ref8
      rw [if_pos (by omega), if_neg (by omega)]
      by_cases h : 256 * n + b.toNat < 126
      · rw [if_pos (.inr ⟨rfl, rfl, h⟩), if_pos h]
      · rw [if_neg (by omega), if_neg h]
    have s3 : ∀ (n : Nat) (z : Bool), ref8 2 t 2 n z = (n, 1 + 2, 0) := by
      intro n z; cases t <;> simp [ref8]
    rw [s1, s2, s3]
    by_cases h : a.toNat * 256 + b.toNat < 126
    · rw [if_pos (by omega), if_pos (.inl h)]
    · rw [if_neg (by omega), if_neg (by omega), if_neg (by simp)]
      congr 1; omega
theorem ref8_eight (r : List UInt8) : ref8 8 r 0 0 true = (if valB (padB (r.take 8) 8 255) < 65536 ∨ 9223372036854775807 < valB (padB (r.take 8) 8 0) then (0, 0, 81) else if (r.take 8).length < 8 then (0, 0, 80) else (valB (r.take 8), 1 + 8, 0)) := by
  have stepF : ∀ (c : UInt8) (t : List UInt8) (n : Nat) (z : Bool), c.toNat < 128 → ref8 8 (c :: t) 0 n z = ref8 8 t 1 (256 * n + c.toNat) (z && decide (c.toNat = 0)) := by
    intro c t n z hc
    conv => lhs; unfold ref8
    rw [if_pos (by omega), if_neg (by omega), if_neg (by omega)]
  have step : ∀ (c : UInt8) (t : List UInt8) (i n : Nat) (z : Bool), 0 < i → i < 8 → i ≠ 5 → ref8 8 (c :: t) i n z = ref8 8 t (i + 1) (256 * n + c.toNat) (z && decide (c.toNat = 0)) := by
    intro c t i n z h0 h8 h5
    conv => lhs; unfold ref8
    rw [if_pos h8, if_neg (by omega), if_neg (by omega)]
  have step5 : ∀ (c : UInt8) (t : List UInt8) (n : Nat) (z : Bool), ref8 8 (c :: t) 5 n z = if (z && decide (c.toNat = 0)) = true then (0, 0, 81) else ref8 8 t 6 (256 * n + c.toNat) (z && decide (c.toNat = 0)) := by
    intro c t n z
    conv => lhs; unfold ref8
    rw [if_pos (by omega), if_neg (by omega)]
    by_cases h : (z && decide (c.toNat = 0)) = true
    · rw [if_pos (.inl ⟨rfl, rfl, h⟩), if_pos h]
    · rw [if_neg (by rintro (⟨_, _, h2⟩ | h2); exact h h2; omega), if_neg h]
  have stop : ∀ (i n : Nat) (z : Bool), i < 8 → ref8 8 [] i n z = (0, 0, 80) := by
    intro i n z h; unfold ref8; rw [if_pos h]
  have done : ∀ (t : List UInt8) (n : Nat) (z : Bool), ref8 8 t 8 n z = (n, 9, 0) := by
    intro t n z; cases t <;> simp [ref8]
  have first : ∀ (c : UInt8) (t : List UInt8) (n : Nat) (z : Bool), 128 ≤ c.toNat → ref8 8 (c :: t) 0 n z = (0, 0, 81) := by
    intro c t n z hc
    unfold ref8
    rw [if_pos (by omega), if_pos ⟨rfl, rfl, hc⟩]
  match r with
  | [] => decide +kernel
  | a0 :: t =>
    have h0 := u8lt a0
    by_cases hb : 128 ≤ a0.toNat
    · rw [first _ _ _ _ hb]
      have : 9223372036854775807 < valB (padB ((a0 :: t).take 8) 8 0) := by
        have hm := foldl_mono (padB [a0] 8 0) (padB ((a0 :: t).take 8) 8 0) (by rw [padB_length _ (by simp), padB_length _ (by simp; omega)]) (fun i => by
          rw [padB_getD _ _ _ _ (by simp), padB_getD _ _ _ _ (by simp; omega)]
          cases i with
          | zero => simp
          | succ i => simp only [List.length_cons, List.length_nil]; rw [if_neg (by omega)]; split <;> simp) 0 0 (Nat.le_refl _)
        have e : valB (padB [a0] 8 0) = a0.toNat * 72057594037927936 := by simp [padB, valB]; omega
        have hm' : valB (padB [a0] 8 0) ≤ valB (padB ((a0 :: t).take 8) 8 0) := hm
        omega
      rw [if_pos (.inr this)]
    · have hb' : a0.toNat < 128 := by omega
      rw [stepF _ _ _ _ hb']
      match t with
      | [] =>
        rw [stop _ _ _ (by omega)]
        have e1 : valB (padB ([a0].take 8) 8 255) = a0.toNat * 72057594037927936 + 72057594037927935 := by simp [padB, valB]; omega
        have e2 : valB (padB ([a0].take 8) 8 0) = a0.toNat * 72057594037927936 := by simp [padB, valB]; omega
        rw [e1, e2, if_neg (by omega), if_pos (by simp)]
      | [a1] =>
        have h1 := u8lt a1
        rw [step _ _ _ _ _ (by omega) (by omega) (by omega), stop _ _ _ (by omega)]
        have e1 : valB (padB ([a0, a1].take 8) 8 255) = (a0.toNat * 256 + a1.toNat) * 281474976710656 + 281474976710655 := by simp [padB, valB]; omega
        have e2 : valB (padB ([a0, a1].take 8) 8 0) = (a0.toNat * 256 + a1.toNat) * 281474976710656 := by simp [padB, valB]; omega
        rw [e1, e2, if_neg (by omega), if_pos (by simp)]
      | [a1, a2] =>
        have h1 := u8lt a1
        have h2 := u8lt a2
        rw [step _ _ _ _ _ (by omega) (by omega) (by omega), step _ _ _ _ _ (by omega) (by omega) (by omega), stop _ _ _ (by omega)]
        have e1 : valB (padB ([a0, a1, a2].take 8) 8 255) = ((a0.toNat * 256 + a1.toNat) * 256 + a2.toNat) * 1099511627776 + 1099511627775 := by simp [padB, valB]; omega
        have e2 : valB (padB ([a0, a1, a2].take 8) 8 0) = ((a0.toNat * 256 + a1.toNat) * 256 + a2.toNat) * 1099511627776 := by simp [padB, valB]; omega
        rw [e1, e2, if_neg (by omega), if_pos (by simp)]
      | [a1, a2, a3] =>
        have h1 := u8lt a1
        have h2 := u8lt a2
        have h3 := u8lt a3
        rw [step _ _ _ _ _ (by omega) (by omega) (by omega), step _ _ _ _ _ (by omega) (by omega) (by omega), step _ _ _ _ _ (by omega) (by omega) (by omega), stop _ _ _ (by omega)]
        have e1 : valB (padB ([a0, a1, a2, a3].take 8) 8 255) = (((a0.toNat * 256 + a1.toNat) * 256 + a2.toNat) * 256 + a3.toNat) * 4294967296 + 4294967295 := by simp [padB, valB]; omega
        have e2 : valB (padB ([a0, a1, a2, a3].take 8) 8 0) = (((a0.toNat * 256 + a1.toNat) * 256 + a2.toNat) * 256 + a3.toNat) * 4294967296 := by simp [padB, valB]; omega
        rw [e1, e2, if_neg (by omega), if_pos (by simp)]
      | [a1, a2, a3, a4] =>
        have h1 := u8lt a1
        have h2 := u8lt a2
        have h3 := u8lt a3
        have h4 := u8lt a4
        rw [step _ _ _ _ _ (by omega) (by omega) (by omega), step _ _ _ _ _ (by omega) (by omega) (by omega), step _ _ _ _ _ (by omega) (by omega) (by omega), step _ _ _ _ _ (by omega) (by omega) (by omega), stop _ _ _ (by omega)]
        have e1 : valB (padB ([a0, a1, a2, a3, a4].take 8) 8 255) = ((((a0.toNat * 256 + a1.toNat) * 256 + a2.toNat) * 256 + a3.toNat) * 256 + a4.toNat) * 16777216 + 16777215 := by simp [padB, valB]; omega
        have e2 : valB (padB ([a0, a1, a2, a3, a4].take 8) 8 0) = ((((a0.toNat * 256 + a1.toNat) * 256 + a2.toNat) * 256 + a3.toNat) * 256 + a4.toNat) * 16777216 := by simp [padB, valB]; omega
        rw [e1, e2, if_neg (by omega), if_pos (by simp)]
      | a1 :: a2 :: a3 :: a4 :: a5 :: t =>
        have h1 := u8lt a1
        have h2 := u8lt a2
        have h3 := u8lt a3
        have h4 := u8lt a4
        have h5 := u8lt a5
        rw [step _ _ _ _ _ (by omega) (by omega) (by omega), step _ _ _ _ _ (by omega) (by omega) (by omega), step _ _ _ _ _ (by omega) (by omega) (by omega), step _ _ _ _ _ (by omega) (by omega) (by omega), step5]
        generalize hN : 256 * (256 * (256 * (256 * (256 * (256 * 0 + a0.toNat) + a1.toNat) + a2.toNat) + a3.toNat) + a4.toNat) + a5.toNat = N
        have hz : ((true && decide (a0.toNat = 0) && decide (a1.toNat = 0) && decide (a2.toNat = 0) && decide (a3.toNat = 0) && decide (a4.toNat = 0)) && decide (a5.toNat = 0)) = true ↔ N = 0 := by
          simp only [Bool.true_and, Bool.and_eq_true, decide_eq_true_eq]; omega
        match t with
        | [] =>
          have e1 : valB (padB ([a0, a1, a2, a3, a4, a5].take 8) 8 255) = N * 65536 + 65535 := by simp [padB, valB]; omega
          have e2 : valB (padB ([a0, a1, a2, a3, a4, a5].take 8) 8 0) = N * 65536 := by simp [padB, valB]; omega
          rw [e1, e2]
          by_cases h : N = 0
          · rw [if_pos (hz.2 h), if_pos (by omega)]
          · rw [if_neg (fun q => h (hz.1 q)), stop _ _ _ (by omega), if_neg (by omega), if_pos (by simp)]
        | [a6] =>
          have h6 := u8lt a6
          have e1 : valB (padB ([a0, a1, a2, a3, a4, a5, a6].take 8) 8 255) = N * 65536 + a6.toNat * 256 + 255 := by simp [padB, valB]; omega
          have e2 : valB (padB ([a0, a1, a2, a3, a4, a5, a6].take 8) 8 0) = N * 65536 + a6.toNat * 256 := by simp [padB, valB]; omega
          rw [e1, e2]
          by_cases h : N = 0
          · rw [if_pos (hz.2 h), if_pos (by omega)]
          · rw [if_neg (fun q => h (hz.1 q)), step _ _ _ _ _ (by omega) (by omega) (by omega), stop _ _ _ (by omega), if_neg (by omega), if_pos (by simp)]
        | a6 :: a7 :: t =>
          have h6 := u8lt a6
          have h7 := u8lt a7
          have e0 : (a0 :: a1 :: a2 :: a3 :: a4 :: a5 :: a6 :: a7 :: t).take 8 = [a0, a1, a2, a3, a4, a5, a6, a7] := rfl
          have e1 : valB (padB [a0, a1, a2, a3, a4, a5, a6, a7] 8 255) = N * 65536 + a6.toNat * 256 + a7.toNat := by simp [padB, valB]; omega
          have e2 : valB (padB [a0, a1, a2, a3, a4, a5, a6, a7] 8 0) = N * 65536 + a6.toNat * 256 + a7.toNat := by simp [padB, valB]; omega
          have e3 : valB [a0, a1, a2, a3, a4, a5, a6, a7] = N * 65536 + a6.toNat * 256 + a7.toNat := by simp [valB]; omega
          rw [e0, e1, e2, e3]
          by_cases h : N = 0
          · rw [if_pos (hz.2 h), if_pos (by omega)]
          · rw [if_neg (fun q => h (hz.1 q)), step _ _ _ _ _ (by omega) (by omega) (by omega), step _ _ _ _ _ (by omega) (by omega) (by omega), done, if_neg (by omega), if_neg (by simp)]
            congr 1; omega
theorem getLen_ref (b : UInt8) (r : List UInt8) : getLen (b :: r) = if b.toNat % 128 < 126 then (b.toNat % 128, 1, 0) else ref8 (if b.toNat % 128 = 127 then 8 else 2) r 0 0 true := by
  have hb := u8lt b
  simp only [getLen]
  by_cases c1 : b.toNat % 128 < 126
  · rw [if_pos c1, if_pos c1]
  · rw [if_neg c1, if_neg c1]
    by_cases c2 : b.toNat % 128 = 126
    · have c3 : ¬ b.toNat % 128 = 127 := by omega
      simp only [if_pos c2, if_neg c3]
      exact (ref8_two r).symm
    · have c3 : b.toNat % 128 = 127 := by omega
      simp only [if_neg c2, if_pos c3]
      exact (ref8_eight r).symm
end Go.Proofs.Ytjdnjlnfcbaokaa

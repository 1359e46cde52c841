/-
  SPECS, 3: mask.Get, frame.Get. Own work.
-/
import Derived.Test.YtjdnjlnfcbaokaaGreatSp2
set_option linter.unusedVariables false
set_option linter.unusedSimpArgs false
namespace Go.Proofs.YtjdnjlnfcbaokaaGreat
open Go Go.Lg
variable {α β σ τ : Type} {ρ : Hp} {L M : As} {K : Nat}
theorem Tri.val {m : G α} {f : α → G β} {C : β → As → Prop} (v : α) (h1 : Tri ρ L m (fun r L' => r = v ∧ L' = L)) (h2 : Tri ρ L (f v) C) : Tri ρ L (bnd m f) C :=
  Tri.bnd h1 fun r L' ⟨e1, e2⟩ => by subst e1; subst e2; exact h2

/-! ### 1. mask.Get -/
def valB (l : List UInt8) : Nat := l.foldl (fun a b => a * 256 + b.toNat) 0
theorem valB_snoc (l : List UInt8) (b : UInt8) : valB (l ++ [b]) = valB l * 256 + b.toNat := by simp [valB]
theorem foldl_lt (l : List UInt8) (a : Nat) : l.foldl (fun a b => a * 256 + b.toNat) a < (a + 1) * 256 ^ l.length := by
  induction l generalizing a with
  | nil => simp
  | cons b l ih =>
    have h1 := ih (a * 256 + b.toNat)
    have h2 := u8lt b
    have h3 : (a * 256 + b.toNat + 1) * 256 ^ l.length ≤ ((a + 1) * 256) * 256 ^ l.length := Nat.mul_le_mul_right _ (by omega)
    simp only [List.foldl_cons, List.length_cons, Nat.pow_succ]
    calc _ < _ := h1
      _ ≤ _ := h3
      _ = _ := by rw [Nat.mul_assoc, Nat.mul_comm 256]
theorem valB_lt (l : List UInt8) : valB l < 256 ^ l.length := by have := foldl_lt l 0; simpa [valB] using this
def padB (l : List UInt8) (size : Nat) (c : UInt8) : List UInt8 := l ++ List.replicate (size - l.length) c
theorem padB_length {l : List UInt8} {size : Nat} (c : UInt8) (h : l.length ≤ size) : (padB l size c).length = size := by simp [padB]; omega
theorem padB_get {l : List UInt8} {size j : Nat} (c : UInt8) (h : j < size) : (padB l size c)[j]? = some (l.getD j c) := by
  unfold padB
  rw [List.getElem?_append]
  by_cases h1 : j < l.length
  · simp [h1, List.getD_eq_getElem?_getD, List.getElem?_eq_getElem h1]
  · simp only [h1, if_false]
    rw [List.getElem?_replicate, if_pos (by omega), List.getD_eq_getElem?_getD, List.getElem?_eq_none (by omega)]; rfl
theorem or64 (a b : Nat) (ha : a < 72057594037927936) (hb : b < 256) : orI .u64 (shlI .u64 (a : Int) 8) (IntKind.wrap .u64 (b : Int)) = ((a * 256 + b : Nat) : Int) := by
  rw [wu64 (by omega) (by omega)]
  have e1 : shlI .u64 (a : Int) 8 = ((a * 256 : Nat) : Int) := by
    unfold shlI
    have : (min (8 : Int).toNat (IntKind.bits .u64)) = 8 := by decide
    rw [this, wu64 (by omega) (by omega)]; omega
  rw [e1]
  unfold orI
  show IntKind.wrap .u64 (((BitVec.ofInt 64 ((a * 256 : Nat) : Int) ||| BitVec.ofInt 64 (b : Int)).toNat : Nat) : Int) = _
  simp only [BitVec.ofInt_natCast, BitVec.toNat_or, BitVec.toNat_ofNat]
  rw [Nat.mod_eq_of_lt (show a * 256 < 2 ^ 64 by omega), Nat.mod_eq_of_lt (show b < 2 ^ 64 by omega)]
  have e2 : a * 256 ||| b = a * 256 + b := by
    have := Nat.shiftLeft_add_eq_or_of_lt (show b < 2 ^ 8 from hb) a
    rw [Nat.shiftLeft_eq] at this
    exact this.symm
  rw [e2, wu64 (by omega) (by omega)]
theorem mask_least_spec {s : Sl} {l : List UInt8} {size : Nat} (hK : KBig K) (hr : Rd ρ L s 1 (bl l)) (hn : s.n = l.length) (h8 : size ≤ 8) :
    Tri ρ L (mask_least K s size) (fun r L' => r = ((valB ((padB l size 0).take size) : Int), (valB ((padB l size 255).take size) : Int)) ∧ L' = L) := by
  unfold mask_least
  refine Tri.bnd (B := fun r L' => r = ((valB ((padB l size 0).take size) : Int), (valB ((padB l size 255).take size) : Int)) ∧ L' = L) ?_ ?_
  · refine Tri.loop (μ := fun (i : Int × Int × Int) => size - i.2.2.toNat) (I := fun (i : Int × Int × Int) L' => ∃ j : Nat, i = ((valB ((padB l size 0).take j) : Int), (valB ((padB l size 255).take j) : Int), (j : Int)) ∧ j ≤ size ∧ L' = L) ?_ (by unfold KBig at hK; simp; omega) ⟨0, by simp [valB], by omega, rfl⟩
    rintro again i L0 ⟨j, rfl, hj, rfl⟩ ih
    unfold mask_least_l0
    dsimp only
    refine Tri.ite ?_ ?_
    · intro hc
      have hj' : j < size := by simp at hc; omega
      refine Tri.val (((l.getD j 0).toNat : Int), ((l.getD j 255).toNat : Int)) ?_ ?_
      · refine Tri.ite ?_ ?_
        · intro h1
          have hjl : j < l.length := by simp at h1; omega
          have hne : bl l ≠ [] := by intro e; have := congrArg List.length e; simp [bl] at this; subst this; simp at hjl
          have hv : (bl l)[j]? = some (byt l[j]) := by rw [bl_get, List.getElem?_eq_getElem hjl]; rfl
          refine Tri.drw (Tri.ixA j hr rfl (by omega) hne fun x hx => ?_)
          refine Tri.ldI (hx.cell hr hv (by omega)) ?_
          refine Tri.ixA j hr rfl (by omega) hne fun y hy => ?_
          refine Tri.ldI (hy.cell hr hv (by omega)) ?_
          refine Tri.ret ⟨?_, rfl⟩
          simp [List.getD_eq_getElem?_getD, List.getElem?_eq_getElem hjl]
        · intro h1
          have hjl : ¬ j < l.length := by simp at h1; omega
          refine Tri.ret ⟨?_, rfl⟩
          simp [List.getD_eq_getElem?_getD, List.getElem?_eq_none (Nat.not_lt.1 hjl)]
      · have key : ∀ c : UInt8, valB ((padB l size c).take (j + 1)) = valB ((padB l size c).take j) * 256 + (l.getD j c).toNat := fun c => by
          rw [List.take_add_one, padB_get c hj']; exact valB_snoc _ _
        have lt : ∀ c : UInt8, valB ((padB l size c).take j) < 72057594037927936 := fun c => by
          have h1 := valB_lt ((padB l size c).take j)
          have h2 : ((padB l size c).take j).length ≤ 7 := by simp; omega
          have h3 : 256 ^ ((padB l size c).take j).length ≤ 256 ^ 7 := Nat.pow_le_pow_right (by omega) h2
          omega
        refine Tri.lt ?_
        refine Tri.lt ?_
        rw [or64 _ _ (lt 0) (u8lt _), or64 _ _ (lt 255) (u8lt _), ← key, ← key, w64 (by omega) (by omega)]
        exact ih _ _ ⟨j + 1, by simp, by omega, rfl⟩ (by simp; omega)
    · intro hc
      have hj' : j = size := by simp at hc; omega
      subst hj'
      exact Tri.ret ⟨rfl, rfl⟩
  · rintro _ L0 ⟨rfl, rfl⟩
    exact Tri.ret ⟨rfl, rfl⟩
/-- the length that bytes begin with: the length, how many bytes, the error -/
def getLen (l : List UInt8) : Nat × Nat × Nat :=
  match l with
  | [] => (0, 0, 80)
  | b :: r =>
    if b.toNat % 128 < 126 then (b.toNat % 128, 1, 0) else
    let size := if b.toNat % 128 = 126 then 2 else 8
    let lo := if b.toNat % 128 = 126 then 126 else 65536
    let hi := if b.toNat % 128 = 126 then 65535 else 9223372036854775807
    let rest := r.take size
    if valB (padB rest size 255) < lo ∨ hi < valB (padB rest size 0) then (0, 0, 81)
    else if rest.length < size then (0, 0, 80) else (valB rest, 1 + size, 0)
theorem and127 (b : UInt8) : andI .u8 (b.toNat : Int) 127 = ((b.toNat % 128 : Nat) : Int) := u8all (p := fun n => andI .u8 (n : Int) 127 = ((n % 128 : Nat) : Int)) (by decide +kernel) b
theorem and15 (b : UInt8) : andI .u8 (b.toNat : Int) 15 = ((b.toNat % 16 : Nat) : Int) := u8all (p := fun n => andI .u8 (n : Int) 15 = ((n % 16 : Nat) : Int)) (by decide +kernel) b
theorem and128 (b : UInt8) : (andI .u8 (b.toNat : Int) 128 != 0) = decide (128 ≤ b.toNat) := u8all (p := fun n => (andI .u8 (n : Int) 128 != 0) = decide (128 ≤ n)) (by decide +kernel) b
theorem and112 (b : UInt8) : (andI .u8 (b.toNat : Int) 112 != 0) = (b.toNat / 16 % 8 != 0) := u8all (p := fun n => (andI .u8 (n : Int) 112 != 0) = (n / 16 % 8 != 0)) (by decide +kernel) b
theorem mask_Get_spec {s : Sl} {l : List UInt8} (hK : KBig K) (hr : Rd ρ L s 1 (bl l)) (hn : s.n = l.length) (hc : s.n ≤ s.c) (hb : l.length ≤ 281474976710656) :
    Tri ρ L (mask_Get K s) (fun r L' => r = (((getLen l).1 : Int), ((getLen l).2.1 : Int), ((getLen l).2.2 : Int)) ∧ L' = L) := by
  unfold mask_Get
  cases l with
  | nil =>
    have : s.n = 0 := by simpa using hn
    refine Tri.ite ?_ ?_
    · intro _; exact Tri.ret ⟨rfl, rfl⟩
    · intro h; simp [this] at h
  | cons b r =>
    have hn' : s.n = r.length + 1 := by simpa using hn
    have hr' : r.length + 1 ≤ 281474976710656 := by simpa using hb
    refine Tri.ite ?_ ?_
    · intro h; simp [hn'] at h; omega
    intro _
    refine Tri.ixA 0 hr rfl (by omega) (by simp [bl]) fun x hx => ?_
    refine Tri.ldI (hx.cell hr (v := byt b) rfl (by omega)) ?_
    refine Tri.lt ?_
    rw [and127]
    have body : ∀ (size lo hi : Nat), (size = 2 ∧ lo = 126 ∧ hi = 65535 ∧ b.toNat % 128 = 126 ∨ size = 8 ∧ lo = 65536 ∧ hi = 9223372036854775807 ∧ b.toNat % 128 = 127) →
        Tri ρ L (slS s (some (1 : Int)) (some (if (IntKind.wrap .i64 ((1 : Int) + (size : Int))) < (s.n : Int) then (IntKind.wrap .i64 ((1 : Int) + (size : Int))) else (s.n : Int))) (some (s.n : Int)) 1 fun x10 =>
          bnd (mask_least K x10 (size : Int)) fun x11 =>
          bnd (if (decide (x11.2 < (lo : Int))) = true then ret true else ret (decide ((hi : Int) < x11.1))) fun (x12 : Bool) =>
          if x12 = true then ret ((0 : Int), (0 : Int), (81 : Int))
          else lt (decide ((x10.n : Int) < (size : Int))) fun x13 => if x13 = true then ret ((0 : Int), (0 : Int), (80 : Int)) else lt (IntKind.wrap .i64 ((1 : Int) + (size : Int))) fun x14 => ret (x11.1, x14, (0 : Int)))
        (fun q L' => q = (((getLen (b :: r)).1 : Int), ((getLen (b :: r)).2.1 : Int), ((getLen (b :: r)).2.2 : Int)) ∧ L' = L) := by
      intro size lo hi hs
      have hs8 : size ≤ 8 := by omega
      have e1 : IntKind.wrap .i64 ((1 : Int) + (size : Int)) = ((1 + size : Nat) : Int) := by rw [w64 (by omega) (by omega)]; omega
      rw [e1]
      have e2 : (if (((1 + size : Nat) : Int)) < (s.n : Int) then (((1 + size : Nat) : Int)) else (s.n : Int)) = ((min (1 + size) s.n : Nat) : Int) := by
        split <;> omega
      rw [e2]
      refine Tri.slS 1 (min (1 + size) s.n) s.n (by rfl) (by rfl) (by rfl) (by omega) (by omega) hc fun x10 h10 _ => ?_
      have hr10 := Rd.subB h10 hr (by omega)
      have hrest : ((b :: r).drop 1).take (min (1 + size) s.n - 1) = r.take size := by
        simp only [List.drop_succ_cons, List.drop_zero]
        rw [hn']
        by_cases h : size ≤ r.length
        · congr 1; omega
        · rw [List.take_of_length_le (by omega), List.take_of_length_le (by omega)]
      rw [hrest] at hr10
      have hn10 : x10.n = (r.take size).length := by rw [h10.n]; simp; omega
      refine Tri.bnd (mask_least_spec hK hr10 hn10 hs8) ?_
      rintro _ L0 ⟨rfl, rfl⟩
      have hrl : (r.take size).length ≤ size := by simp; omega
      have et : ∀ c, (padB (r.take size) size c).take size = padB (r.take size) size c := fun c => List.take_of_length_le (by rw [padB_length c hrl]; exact Nat.le_refl _)
      rw [et, et]
      dsimp only
      have hg : getLen (b :: r) = if valB (padB (r.take size) size 255) < lo ∨ hi < valB (padB (r.take size) size 0) then (0, 0, 81) else if (r.take size).length < size then (0, 0, 80) else (valB (r.take size), 1 + size, 0) := by
        rcases hs with ⟨rfl, rfl, rfl, h⟩ | ⟨rfl, rfl, rfl, h⟩ <;> simp [getLen, h]
      refine Tri.val (decide (valB (padB (r.take size) size 255) < lo ∨ hi < valB (padB (r.take size) size 0))) ?_ ?_
      · refine Tri.ite ?_ ?_
        · intro h
          have h' : valB (padB (r.take size) size 255) < lo := by simp at h; omega
          exact Tri.ret ⟨by simp [h'], rfl⟩
        · intro h
          have h' : ¬ valB (padB (r.take size) size 255) < lo := by simp at h; omega
          refine Tri.ret ⟨?_, rfl⟩
          simp only [h', false_or]
          rw [Bool.eq_iff_iff]; simp
      · rw [hg]
        refine Tri.ite ?_ ?_
        · intro h
          simp only [decide_eq_true_eq] at h
          exact Tri.ret ⟨by simp [h], rfl⟩
        · intro h
          simp only [decide_eq_false_iff_not] at h
          rw [if_neg h]
          refine Tri.lt ?_
          rw [hn10]
          refine Tri.ite ?_ ?_
          · intro h2
            have h2' : (r.take size).length < size := by simpa using h2
            exact Tri.ret ⟨by simp only [h2', if_true]; rfl, rfl⟩
          · intro h2
            have h2' : ¬ (r.take size).length < size := by simpa using h2
            refine Tri.lt ?_
            rw [if_neg h2']
            have e3 : padB (r.take size) size 0 = r.take size := by
              unfold padB; rw [show size - (r.take size).length = 0 by omega]; simp
            rw [e3]
            exact Tri.ret ⟨rfl, rfl⟩
    refine Tri.lt ?_
    by_cases h' : b.toNat % 128 = 126
    · have h : (((b.toNat % 128 : Nat) : Int) == 126) = true := by simp; omega
      rw [h]
      exact body 2 126 65535 (.inl ⟨rfl, rfl, rfl, h'⟩)
    · have h : (((b.toNat % 128 : Nat) : Int) == 126) = false := by simp; omega
      rw [h]
      by_cases h2' : b.toNat % 128 = 127
      · have h2 : (((b.toNat % 128 : Nat) : Int) == 127) = true := by simp; omega
        rw [h2]
        exact body 8 65536 9223372036854775807 (.inr ⟨rfl, rfl, rfl, h2'⟩)
      · have h2 : (((b.toNat % 128 : Nat) : Int) == 127) = false := by simp; omega
        rw [h2]
        have h3 : b.toNat % 128 < 126 := by omega
        have e4 : IntKind.wrap .u64 ((b.toNat % 128 : Nat) : Int) = ((b.toNat % 128 : Nat) : Int) := wu64 (by omega) (by omega)
        rw [e4]
        refine Tri.ret (x := (((b.toNat % 128 : Nat) : Int), (1 : Int), (0 : Int))) ⟨?_, rfl⟩
        simp only [getLen, h3, if_true]; rfl
end Go.Proofs.YtjdnjlnfcbaokaaGreat

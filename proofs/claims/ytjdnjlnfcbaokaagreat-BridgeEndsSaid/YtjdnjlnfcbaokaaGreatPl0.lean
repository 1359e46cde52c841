/-
  PLAIN LAWS, 0: what is read of bytes: more bytes behind change nothing that was told; what was written is read again. Own work.
-/
import Derived.Test.YtjdnjlnfcbaokaaGreatSp8
set_option linter.unusedVariables false
set_option linter.unusedSimpArgs false
set_option maxRecDepth 20000
namespace Go.Proofs.YtjdnjlnfcbaokaaGreat
open Go Go.Lg

/-! ### 1. Lengths, with more bytes behind -/
theorem foldl_mono : ∀ (l m : List UInt8), l.length = m.length → (∀ i, (l.getD i 0).toNat ≤ (m.getD i 0).toNat) → ∀ a a' : Nat, a ≤ a' →
    l.foldl (fun a b => a * 256 + b.toNat) a ≤ m.foldl (fun a b => a * 256 + b.toNat) a'
  | [], [], _, _, a, a', h => h
  | x :: l, y :: m, hl, hi, a, a', h => by
    simp only [List.foldl_cons]
    refine foldl_mono l m (by simpa using hl) (fun i => ?_) _ _ ?_
    · have := hi (i + 1); simpa using this
    · have := hi 0
      simp at this; omega
  | [], _ :: _, hl, _, _, _, _ => by simp at hl
  | _ :: _, [], hl, _, _, _, _ => by simp at hl
theorem padB_getD (l : List UInt8) (size i : Nat) (c : UInt8) (hl : l.length ≤ size) : (padB l size c).getD i 0 = if i < l.length then l.getD i 0 else if i < size then c else 0 := by
  rw [List.getD_eq_getElem?_getD]
  by_cases h : i < size
  · rw [padB_get c h]
    by_cases h1 : i < l.length
    · simp [h1, List.getD_eq_getElem?_getD, List.getElem?_eq_getElem h1]
    · simp [h1, h, List.getD_eq_getElem?_getD, List.getElem?_eq_none (Nat.le_of_not_lt h1)]
  · rw [List.getElem?_eq_none (by rw [padB_length c hl]; omega)]
    simp [h, show ¬ i < l.length by omega]
theorem pad_hi {l m : List UInt8} {size : Nat} (hl : (l ++ m).length ≤ size) : valB (padB (l ++ m) size 255) ≤ valB (padB l size 255) := by
  have h1 : l.length ≤ size := by simp at hl; omega
  refine foldl_mono _ _ (by rw [padB_length _ hl, padB_length _ h1]) (fun i => ?_) 0 0 (Nat.le_refl _)
  rw [padB_getD _ _ _ _ hl, padB_getD _ _ _ _ h1]
  by_cases c1 : i < l.length
  · rw [if_pos c1, if_pos (by simp; omega)]
    simp [List.getD_eq_getElem?_getD, List.getElem?_append_left c1]
  · rw [if_neg c1]
    by_cases c2 : i < size
    · rw [if_pos c2]
      have : ∀ x : UInt8, x.toNat ≤ (255 : UInt8).toNat := fun x => by have := u8lt x; show x.toNat ≤ 255; omega
      exact this _
    · have e : (l ++ m).getD i 0 = 0 := by rw [List.getD_eq_getElem?_getD, List.getElem?_eq_none (by omega)]; rfl
      rw [if_neg c2, e]; simp
theorem pad_lo {l m : List UInt8} {size : Nat} (hl : (l ++ m).length ≤ size) : valB (padB l size 0) ≤ valB (padB (l ++ m) size 0) := by
  have h1 : l.length ≤ size := by simp at hl; omega
  refine foldl_mono _ _ (by rw [padB_length _ hl, padB_length _ h1]) (fun i => ?_) 0 0 (Nat.le_refl _)
  rw [padB_getD _ _ _ _ hl, padB_getD _ _ _ _ h1]
  by_cases c1 : i < l.length
  · rw [if_pos c1, if_pos (by simp; omega)]
    simp [List.getD_eq_getElem?_getD, List.getElem?_append_left c1]
  · rw [if_neg c1]
    split <;> simp
theorem getLen_more {l q : List UInt8} (h : (getLen l).2.2 ≠ 80) : getLen (l ++ q) = getLen l := by
  cases l with
  | nil => simp [getLen] at h
  | cons b r =>
    simp only [List.cons_append, getLen] at h ⊢
    by_cases c1 : b.toNat % 128 < 126
    · rw [if_pos c1, if_pos c1]
    · rw [if_neg c1] at h
      rw [if_neg c1, if_neg c1]
      generalize hs : (if b.toNat % 128 = 126 then 2 else 8) = size at h ⊢
      generalize (if b.toNat % 128 = 126 then 126 else 65536) = lo at h ⊢
      generalize (if b.toNat % 128 = 126 then 65535 else 9223372036854775807) = hi at h ⊢
      by_cases c2 : (r.take size).length < size
      · have c3 : r.length < size := by simp at c2; omega
        have e1 : r.take size = r := List.take_of_length_le (by omega)
        have e2 : (r ++ q).take size = r ++ q.take (size - r.length) := by rw [List.take_append, e1]
        rw [e1] at h ⊢
        have hl : (r ++ q.take (size - r.length)).length ≤ size := by simp; omega
        by_cases c4 : valB (padB r size 255) < lo ∨ hi < valB (padB r size 0)
        · rw [if_pos c4, e2, if_pos]
          rcases c4 with c4 | c4
          · left; have := pad_hi hl; omega
          · right; have := pad_lo hl; omega
        · rw [if_neg c4, if_pos c3] at h
          exact absurd rfl h
      · have c3 : size ≤ r.length := by simp at c2; omega
        have e2 : (r ++ q).take size = r.take size := List.take_append_of_le_length c3
        rw [e2]
/-- what a first byte, and the one behind it, tell -/
def frBad (b0 h : UInt8) : Bool := (b0.toNat / 16 % 8 != 0) || !knownOp (b0.toNat % 16) || (ctlOp (b0.toNat % 16) && !decide (128 ≤ b0.toNat)) || (ctlOp (b0.toNat % 16) && decide (125 < h.toNat % 128))
def frTail (b0 : UInt8) (r : List UInt8) (most : Nat) (g : Nat × Nat × Nat) (masked : Bool) : Fr × Nat × Nat :=
  if g.2.2 = 81 then (Fr.none, 0, 91) else if g.2.2 ≠ 0 then (Fr.none, 0, 90) else if most < g.1 then (Fr.none, 0, 92) else
  if masked = true ∧ r.length + 1 < 1 + g.2.1 + 4 then (Fr.none, 0, 90) else
  if r.length + 1 < (if masked then 1 + g.2.1 + 4 else 1 + g.2.1) + g.1 then (Fr.none, 0, 90) else
  (⟨decide (128 ≤ b0.toNat), b0.toNat % 16, masked, if masked then keyAt (b0 :: r) (1 + g.2.1) else Key.zero, turn (if masked then keyAt (b0 :: r) (1 + g.2.1) else Key.zero) 0 (((b0 :: r).drop (if masked then 1 + g.2.1 + 4 else 1 + g.2.1)).take g.1)⟩, (if masked then 1 + g.2.1 + 4 else 1 + g.2.1) + g.1, 0)
theorem frGet_cons (b0 : UInt8) (r : List UInt8) (most : Nat) : frGet (b0 :: r) most = bif frBad b0 (r.headD 0) then (Fr.none, 0, 91) else frTail b0 r most (getLen r) (decide (128 ≤ (r.headD 0).toNat)) := by
  have e : frBad b0 (r.headD 0) = decide (b0.toNat / 16 % 8 ≠ 0 ∨ knownOp (b0.toNat % 16) = false ∨ (ctlOp (b0.toNat % 16) = true ∧ decide (128 ≤ b0.toNat) = false) ∨ (ctlOp (b0.toNat % 16) = true ∧ 125 < (r.headD 0).toNat % 128)) := by
    rw [Bool.eq_iff_iff]
    simp only [frBad, Bool.or_eq_true, Bool.and_eq_true, bne_iff_ne, Bool.not_eq_true', decide_eq_true_eq, or_assoc]
  have cd : ∀ (c : Prop) [Decidable c] (x y : Fr × Nat × Nat), (bif decide c then x else y) = if c then x else y := fun c _ x y => by by_cases h : c <;> simp [h]
  rw [e, cd]
  simp only [frGet, frTail, List.length_cons]
theorem frTail_more {b0 : UInt8} {r q : List UInt8} {most : Nat} {g : Nat × Nat × Nat} {mk : Bool} (h : (frTail b0 r most g mk).2.2 ≠ 90) : frTail b0 (r ++ q) most g mk = frTail b0 r most g mk := by
  unfold frTail at h ⊢
  by_cases c2 : g.2.2 = 81
  · rw [if_pos c2, if_pos c2]
  · rw [if_neg c2] at h
    rw [if_neg c2, if_neg c2]
    by_cases c3 : g.2.2 ≠ 0
    · rw [if_pos c3, if_pos c3]
    · rw [if_neg c3] at h
      rw [if_neg c3, if_neg c3]
      by_cases c4 : most < g.1
      · rw [if_pos c4, if_pos c4]
      · rw [if_neg c4] at h
        rw [if_neg c4, if_neg c4]
        by_cases c5 : mk = true ∧ r.length + 1 < 1 + g.2.1 + 4
        · rw [if_pos c5] at h; exact absurd rfl h
        · rw [if_neg c5] at h
          have c5' : ¬ (mk = true ∧ (r ++ q).length + 1 < 1 + g.2.1 + 4) := by
            rintro ⟨a1, a2⟩; refine c5 ⟨a1, ?_⟩; simp at a2; omega
          rw [if_neg c5, if_neg c5']
          generalize hat : (if mk = true then 1 + g.2.1 + 4 else 1 + g.2.1) = at1 at h ⊢
          by_cases c6 : r.length + 1 < at1 + g.1
          · rw [if_pos c6] at h; exact absurd rfl h
          · have c6' : ¬ (r ++ q).length + 1 < at1 + g.1 := by simp at c6 ⊢; omega
            rw [if_neg c6, if_neg c6']
            have e0 : b0 :: (r ++ q) = (b0 :: r) ++ q := by simp
            have ek : mk = true → keyAt ((b0 :: r) ++ q) (1 + g.2.1) = keyAt (b0 :: r) (1 + g.2.1) := by
              intro hm
              have hl : 1 + g.2.1 + 4 ≤ (b0 :: r).length := by
                simp only [hm, true_and] at c5; simp; omega
              have e : ∀ j, j < (b0 :: r).length → ((b0 :: r) ++ q).getD j 0 = (b0 :: r).getD j 0 := fun j hj => by
                simp only [List.getD_eq_getElem?_getD, List.getElem?_append_left hj]
              unfold keyAt
              rw [e _ (by omega), e _ (by omega), e _ (by omega), e _ (by omega)]
            have ed : (((b0 :: r) ++ q).drop at1).take g.1 = ((b0 :: r).drop at1).take g.1 := by
              rw [List.drop_append_of_le_length (by simp; omega), List.take_append_of_le_length (by rw [List.length_drop]; simp; omega)]
            rw [e0, ed]
            cases hm : mk with
            | false => rfl
            | true => simp only [if_true]; rw [ek hm]
theorem frGet_more {p q : List UInt8} {most : Nat} (h : (frGet p most).2.2 ≠ 90) : frGet (p ++ q) most = frGet p most := by
  cases p with
  | nil => simp [frGet] at h
  | cons b0 r =>
    rw [List.cons_append, frGet_cons] at *
    rw [frGet_cons]
    cases r with
    | nil =>
      by_cases c1 : frBad b0 0 = true
      · have c2 : frBad b0 (([] ++ q : List UInt8).headD 0) = true := by
          simp only [frBad, Bool.or_eq_true, Bool.and_eq_true, bne_iff_ne, Bool.not_eq_true', decide_eq_true_eq] at c1 ⊢
          rcases c1 with ((c | c) | c) | c
          · exact .inl (.inl (.inl c))
          · exact .inl (.inl (.inr c))
          · exact .inl (.inr c)
          · have := c.2; simp at this
        rw [c2, List.headD_nil, c1]; rfl
      · rw [Bool.not_eq_true] at c1
        rw [List.headD_nil, c1] at h
        simp [frTail, getLen] at h
    | cons b1 r =>
      simp only [List.cons_append, List.headD_cons] at h ⊢
      cases c1 : frBad b0 b1 with
      | true => rfl
      | false =>
        rw [c1] at h
        simp only [cond_false] at h ⊢
        by_cases c80 : (getLen (b1 :: r)).2.2 = 80
        · simp [frTail, c80] at h
        · have hg : getLen (b1 :: (r ++ q)) = getLen (b1 :: r) := getLen_more (l := b1 :: r) (q := q) c80
          rw [hg]
          exact frTail_more (r := b1 :: r) h
theorem look_more {masked : Bool} {most : Nat} {p q : List UInt8} (h : (lookM masked most p).2.2 ≠ 90) : lookM masked most (p ++ q) = lookM masked most p := by
  unfold lookM at h ⊢
  by_cases c1 : 1 < p.length
  · rw [if_pos c1] at h
    have c1' : 1 < (p ++ q).length := by simp; omega
    rw [if_pos c1, if_pos c1']
    have e1 : (p ++ q).take 1 = p.take 1 := List.take_append_of_le_length (by omega)
    have e2 : (p ++ q).getD 1 0 = p.getD 1 0 := by simp only [List.getD_eq_getElem?_getD, List.getElem?_append_left c1]
    rw [e1, e2]
    split
    · rfl
    · split
      · rfl
      · rename_i h1 h2
        rw [if_neg h1, if_neg h2] at h
        exact frGet_more h
  · rw [if_neg c1] at h ⊢
    cases p with
    | nil => simp [frGet] at h
    | cons b r =>
      have hr : r = [] := by
        cases r with
        | nil => rfl
        | cons c r => simp at c1
      subst hr
      cases q with
      | nil => simp
      | cons c q =>
        rw [if_pos (by simp)]
        have e1 : ([b] ++ c :: q).take 1 = [b] := rfl
        rw [e1]
        have h91 : frGet [b] most = (Fr.none, 0, 91) := by
          rw [frGet_cons] at h ⊢
          cases c1 : frBad b (([] : List UInt8).headD 0) with
          | true => rfl
          | false => rw [c1] at h; simp [frTail, getLen] at h
        rw [h91]; rfl

/-! ### 2. All frames of bytes -/
def parse (masked : Bool) (most : Nat) (p : List UInt8) : List Fr × List UInt8 × Nat := feedS masked most (p.length + 1) p
theorem parse_eq (masked : Bool) (most : Nat) (p : List UInt8) : parse masked most p =
    if (lookM masked most p).2.2 = 0 then ((lookM masked most p).1 :: (parse masked most (p.drop (lookM masked most p).2.1)).1, (parse masked most (p.drop (lookM masked most p).2.1)).2)
    else if (lookM masked most p).2.2 = 90 then ([], p, 0) else ([], [], (lookM masked most p).2.2) := by
  unfold parse
  rw [feedS]
  split
  · rename_i c1
    obtain ⟨_, h2, h3⟩ := look_ok c1
    rw [feedS_fuel (k := p.length) (k' := (p.drop (lookM masked most p).2.1).length + 1) (by simp; omega) (by simp)]
  · rfl
theorem feed_parse (s : St) (b : List UInt8) : s.feed b = if s.err ≠ 0 then ([], s) else ((parse s.masked s.most (s.part ++ b)).1, { s with part := (parse s.masked s.most (s.part ++ b)).2.1, err := (parse s.masked s.most (s.part ++ b)).2.2 }) := rfl
theorem look_ne80 {masked : Bool} {most : Nat} {p : List UInt8} : (lookM masked most p).2.2 ≠ 0 → (lookM masked most p).2.2 = 90 ∨ (lookM masked most p).2.2 ≠ 90 := fun _ => Decidable.em _
/-- bytes behind: they are read behind what is left -/
theorem parse_more (masked : Bool) (most : Nat) (p q : List UInt8) : parse masked most (p ++ q) =
    if (parse masked most p).2.2 = 0 then ((parse masked most p).1 ++ (parse masked most ((parse masked most p).2.1 ++ q)).1, (parse masked most ((parse masked most p).2.1 ++ q)).2)
    else parse masked most p := by
  by_cases c0 : (lookM masked most p).2.2 = 0
  · obtain ⟨_, h2, h3⟩ := look_ok c0
    have hm := look_more (q := q) (p := p) (masked := masked) (most := most) (by omega)
    have ih := parse_more masked most (p.drop (lookM masked most p).2.1) q
    have e1 := parse_eq masked most p
    have e2 := parse_eq masked most (p ++ q)
    rw [if_pos c0] at e1
    rw [hm, if_pos c0, List.drop_append_of_le_length h3, ih] at e2
    rw [e2, e1]
    dsimp only
    split <;> simp
  · by_cases c9 : (lookM masked most p).2.2 = 90
    · have e1 := parse_eq masked most p
      rw [if_neg c0, if_pos c9] at e1
      rw [e1]; simp
    · have hm := look_more (q := q) (p := p) (masked := masked) (most := most) c9
      have e1 := parse_eq masked most p
      have e2 := parse_eq masked most (p ++ q)
      rw [if_neg c0, if_neg c9] at e1
      rw [hm, if_neg c0, if_neg c9] at e2
      rw [e1, e2]
      simp [c0]
termination_by p.length
decreasing_by
  rw [List.length_drop]; omega
theorem parse_err {masked : Bool} {most : Nat} (p : List UInt8) (h : (parse masked most p).2.2 ≠ 0) : (parse masked most p).2.1 = [] := by
  by_cases c0 : (lookM masked most p).2.2 = 0
  · obtain ⟨_, h2, h3⟩ := look_ok c0
    have e1 := parse_eq masked most p
    rw [if_pos c0] at e1
    rw [e1] at h ⊢
    exact parse_err _ h
  · have e1 := parse_eq masked most p
    rw [if_neg c0] at e1
    rw [e1] at h ⊢
    split at h
    · simp at h
    · rename_i c9; rw [if_neg c9]
termination_by p.length
decreasing_by
  rw [List.length_drop]; omega
theorem parse_left {masked : Bool} {most : Nat} (p : List UInt8) : (lookM masked most (parse masked most p).2.1).2.2 = 90 := by
  by_cases c0 : (lookM masked most p).2.2 = 0
  · obtain ⟨_, h2, h3⟩ := look_ok c0
    have e1 := parse_eq masked most p
    rw [if_pos c0] at e1
    rw [e1]
    exact parse_left _
  · have e1 := parse_eq masked most p
    rw [if_neg c0] at e1
    rw [e1]
    split
    · rename_i c9; exact c9
    · simp [lookM, frGet]
termination_by p.length
decreasing_by
  rw [List.length_drop]; omega
theorem getLen_part {l : List UInt8} (h : (getLen l).2.2 = 80) : l.length ≤ 8 := by
  cases l with
  | nil => simp
  | cons b r =>
    simp only [getLen] at h
    have hs : (if b.toNat % 128 = 126 then 2 else 8) ≤ 8 := by split <;> omega
    generalize (if b.toNat % 128 = 126 then 2 else 8) = size at h hs
    generalize (if b.toNat % 128 = 126 then 126 else 65536) = lo at h
    generalize (if b.toNat % 128 = 126 then 65535 else 9223372036854775807) = hi at h
    by_cases c1 : b.toNat % 128 < 126
    · rw [if_pos c1] at h; simp at h
    · rw [if_neg c1] at h
      by_cases c2 : valB (padB (r.take size) size 255) < lo ∨ hi < valB (padB (r.take size) size 0)
      · rw [if_pos c2] at h; simp at h
      · rw [if_neg c2] at h
        by_cases c3 : (r.take size).length < size
        · rw [List.length_take] at c3
          simp; omega
        · rw [if_neg c3] at h; simp at h
theorem getLen_err (l : List UInt8) : (getLen l).2.2 = 0 ∨ (getLen l).2.2 = 80 ∨ (getLen l).2.2 = 81 := by
  cases l with
  | nil => simp [getLen]
  | cons b r =>
    simp only [getLen]
    generalize (if b.toNat % 128 = 126 then 2 else 8) = size
    generalize (if b.toNat % 128 = 126 then 126 else 65536) = lo
    generalize (if b.toNat % 128 = 126 then 65535 else 9223372036854775807) = hi
    split
    · exact .inl rfl
    · split
      · exact .inr (.inr rfl)
      · split
        · exact .inr (.inl rfl)
        · exact .inl rfl
/-- what is left is less than a frame -/
theorem frGet_part {p : List UInt8} {most : Nat} (h : (frGet p most).2.2 = 90) : p.length ≤ most + 14 := by
  cases p with
  | nil => simp
  | cons b0 r =>
    rw [frGet_cons] at h
    cases c1 : frBad b0 (r.headD 0) with
    | true => rw [c1] at h; simp at h
    | false =>
      rw [c1] at h
      simp only [cond_false] at h
      obtain ⟨_, b2, _⟩ := getLen_bound r
      have b3 := getLen_err r
      have b4 : (getLen r).2.2 = 80 → r.length ≤ 8 := getLen_part
      generalize getLen r = g at h b2 b3 b4
      generalize decide (128 ≤ (r.headD 0).toNat) = mk at h
      unfold frTail at h
      split at h
      · simp at h
      · split at h
        · rename_i c2 c3
          have := b4 (by omega)
          simp; omega
        · split at h
          · simp at h
          · split at h
            · rename_i c5
              have := c5.2; simp; omega
            · have h7 : (if mk = true then 1 + g.2.1 + 4 else 1 + g.2.1) ≤ 1 + g.2.1 + 4 := by split <;> omega
              generalize (if mk = true then 1 + g.2.1 + 4 else 1 + g.2.1) = at1 at h h7
              rename_i c4 c5
              by_cases c6 : r.length + 1 < at1 + g.1
              · simp; omega
              · rw [if_neg c6] at h; simp at h
theorem look_part {masked : Bool} {most : Nat} {p : List UInt8} (h : (lookM masked most p).2.2 = 90) : p.length ≤ most + 14 := by
  unfold lookM at h
  split at h
  · split at h
    · simp at h
    · split at h
      · simp at h
      · exact frGet_part h
  · omega
theorem feed_part {s : St} (h : s.part.length ≤ s.most + 14) (b : List UInt8) : (s.feed b).2.part.length ≤ s.most + 14 := by
  rw [feed_parse]
  split
  · exact h
  · exact look_part (parse_left _)

/-! ### 3. What was written is read -/
theorem numB_val : ∀ (s n : Nat), n < 256 ^ s → valB (numB n s) = n
  | 0, n, h => by simp at h; subst h; rfl
  | s + 1, n, h => by
    rw [numB, valB_snoc, numB_val s (n / 256) (by rw [Nat.pow_succ] at h; exact (Nat.div_lt_iff_lt_mul (by omega)).2 h), UInt8.toNat_ofNat']
    omega
theorem padB_full {l : List UInt8} {c : UInt8} : padB l l.length c = l := by simp [padB]
/-- a length's bytes, the first one with a mark perhaps -/
theorem getLen_lenB {n : Nat} (hn : n ≤ 65536) (m : Bool) (q : List UInt8) : getLen ((if m then addHi (lenB n) else lenB n) ++ q) = (n, (lenB n).length, 0) := by
  by_cases h1 : n < 126
  · have e : lenB n = [UInt8.ofNat n] := by simp [lenB, h1]
    rw [e]
    have t : (UInt8.ofNat n).toNat = n := by rw [UInt8.toNat_ofNat']; omega
    cases m with
    | false =>
      simp only [Bool.false_eq_true, if_false, List.cons_append, List.nil_append, getLen, t]
      have : n % 128 = n := by omega
      rw [this, if_pos h1]; rfl
    | true =>
      simp only [if_true, addHi, List.cons_append, List.nil_append, getLen, t]
      have t2 : (UInt8.ofNat (n + 128)).toNat = n + 128 := by rw [UInt8.toNat_ofNat']; omega
      rw [t2]
      have : (n + 128) % 128 = n := by omega
      rw [this, if_pos h1]; rfl
  · by_cases h2 : n < 65536
    · have e : lenB n = 126 :: numB n 2 := by simp [lenB, h1, h2]
      have key : ∀ c : UInt8, c.toNat % 128 = 126 → getLen (c :: (numB n 2 ++ q)) = (n, 3, 0) := by
        intro c hc
        simp only [getLen]
        rw [if_neg (by omega)]
        simp only [hc, if_true]
        have t : (numB n 2 ++ q).take 2 = numB n 2 := List.take_left' (numB_length 2 n)
        rw [t]
        have p : ∀ c, padB (numB n 2) 2 c = numB n 2 := fun c => by have := padB_full (l := numB n 2) (c := c); rwa [numB_length] at this
        rw [p, p, numB_val 2 n (by omega), if_neg (by omega), numB_length, if_neg (by omega)]
      rw [e]
      cases m with
      | false => exact key 126 (by decide)
      | true => exact key (UInt8.ofNat ((126 : UInt8).toNat + 128)) (by decide)
    · have e : lenB n = 127 :: numB n 8 := by simp [lenB, h1, h2]
      have key : ∀ c : UInt8, c.toNat % 128 = 127 → getLen (c :: (numB n 8 ++ q)) = (n, 9, 0) := by
        intro c hc
        simp only [getLen]
        rw [if_neg (by omega)]
        have c6 : ¬ c.toNat % 128 = 126 := by omega
        simp only [if_neg c6]
        have t : (numB n 8 ++ q).take 8 = numB n 8 := List.take_left' (numB_length 8 n)
        rw [t]
        have p : ∀ c, padB (numB n 8) 8 c = numB n 8 := fun c => by have := padB_full (l := numB n 8) (c := c); rwa [numB_length] at this
        rw [p, p, numB_val 8 n (by omega), if_neg (by omega), numB_length, if_neg (by omega)]
      rw [e]
      cases m with
      | false => exact key 127 (by decide)
      | true => exact key (UInt8.ofNat ((127 : UInt8).toNat + 128)) (by decide)
theorem turn_turn (k : Key) : ∀ (l : List UInt8) (i : Nat), turn k i (turn k i l) = l
  | [], _ => rfl
  | b :: r, i => by
    simp only [turn, turn_turn k r]
    congr 1
    rw [UInt8.xor_assoc, UInt8.xor_self, UInt8.xor_zero]
theorem turn_zero : ∀ (l : List UInt8) (i : Nat), turn Key.zero i l = l
  | [], _ => rfl
  | b :: r, i => by
    simp only [turn, turn_zero r]
    congr 1
    have : Key.zero.at_ i = 0 := by
      have h : i % 4 < 4 := Nat.mod_lt _ (by omega)
      unfold Key.at_ Key.l Key.zero
      generalize i % 4 = j at h
      match j, h with
      | 0, _ => rfl
      | 1, _ => rfl
      | 2, _ => rfl
      | 3, _ => rfl
    rw [this, UInt8.xor_zero]
theorem hd0_nat {f : Fr} (h : f.op < 128) : (hd0 f).toNat = if f.fin then f.op + 128 else f.op := by
  unfold hd0
  rw [UInt8.toNat_ofNat']
  split <;> omega
theorem ctl_small {f : Fr} (h : formF f = true) (hc : ctlOp f.op = true) : f.fin = true ∧ f.data.length ≤ 125 := by
  simp only [formF, hc, Bool.and_eq_true, Bool.not_true, Bool.false_or, decide_eq_true_eq] at h
  exact h.1.2
theorem lenB_head {n : Nat} (m : Bool) : ∃ b r, (if m then addHi (lenB n) else lenB n) = b :: r ∧ b.toNat % 128 = (if n < 126 then n else if n < 65536 then 126 else 127) ∧ decide (128 ≤ b.toNat) = m ∧ r.length + 1 = (lenB n).length := by
  have key : ∀ (c : Nat) (l : List UInt8), c < 128 → lenB n = UInt8.ofNat c :: l → ∃ b r, (if m then addHi (lenB n) else lenB n) = b :: r ∧ b.toNat % 128 = c ∧ decide (128 ≤ b.toNat) = m ∧ r.length + 1 = (lenB n).length := by
    intro c l hc e
    have t : (UInt8.ofNat c).toNat = c := by rw [UInt8.toNat_ofNat']; omega
    rw [e]
    cases m with
    | false => exact ⟨_, l, rfl, by rw [t]; omega, by rw [t]; simp; omega, by simp⟩
    | true =>
      have t2 : (UInt8.ofNat (c + 128)).toNat = c + 128 := by rw [UInt8.toNat_ofNat']; omega
      refine ⟨UInt8.ofNat (c + 128), l, by simp [addHi, t], by rw [t2]; omega, by rw [t2]; simp, by simp⟩
  by_cases h1 : n < 126
  · have := key n [] (by omega) (by simp [lenB, h1])
    simpa [h1] using this
  · by_cases h2 : n < 65536
    · have := key 126 (numB n 2) (by omega) (by simp [lenB, h1, h2])
      simpa [h1, h2] using this
    · have := key 127 (numB n 8) (by omega) (by simp [lenB, h1, h2])
      simpa [h1, h2] using this
theorem frPut_eq (f : Fr) : frPut f = hd0 f :: ((if f.masked then addHi (lenB f.data.length) else lenB f.data.length) ++ ((if f.masked then f.key.l else []) ++ (if f.masked then turn f.key 0 f.data else f.data))) := by
  unfold frPut
  cases f.masked <;> simp
theorem frPut_len (f : Fr) : (frPut f).length = 1 + (lenB f.data.length).length + (if f.masked then 4 else 0) + f.data.length := by
  have h2 : ∀ l : List UInt8, (addHi l).length = l.length := fun l => by cases l <;> rfl
  rw [frPut_eq]
  cases f.masked <;> simp [h2, turn_length, Key.l] <;> omega
theorem keyAt_put (a : List UInt8) (k : Key) (q : List UInt8) : keyAt (a ++ (k.l ++ q)) a.length = k := by
  have e : ∀ j, (a ++ (k.l ++ q)).getD (a.length + j) 0 = (k.l ++ q).getD j 0 := fun j => by
    simp only [List.getD_eq_getElem?_getD]
    rw [List.getElem?_append_right (by omega)]
    congr 2; omega
  unfold keyAt
  rw [e 1, e 2, e 3, show a.length = a.length + 0 from rfl, e 0]
  obtain ⟨a0, a1, a2, a3⟩ := k
  rfl
theorem frGet_put {f : Fr} {most : Nat} (hf : formF f = true) (hd : f.data.length ≤ most) (hm : most ≤ 65536) (q : List UInt8) : frGet (frPut f ++ q) most = (f, (frPut f).length, 0) := by
  have hkn : knownOp f.op = true := by simp only [formF, Bool.and_eq_true] at hf; exact hf.1.1
  have hop := known_lt hkn
  have hkey : f.masked = false → f.key = Key.zero := by
    intro h; simp only [formF, h, Bool.and_eq_true, Bool.false_or, decide_eq_true_eq] at hf; exact hf.2
  have e0 := frPut_eq f
  have elen := frPut_len f
  generalize hX : (if f.masked then addHi (lenB f.data.length) else lenB f.data.length) = X at e0
  generalize hY : (if f.masked then turn f.key 0 f.data else f.data) = Y at e0
  obtain ⟨b1, r1, ex, e126, ehi, erl⟩ := lenB_head (n := f.data.length) f.masked
  rw [hX] at ex
  have eh := hd0_nat (f := f) (by omega)
  have eop : (hd0 f).toNat % 16 = f.op := by rw [eh]; split <;> omega
  have efin : decide (128 ≤ (hd0 f).toNat) = f.fin := by
    rw [eh]; cases f.fin <;> simp; omega
  have ebits : (hd0 f).toNat / 16 % 8 = 0 := by rw [eh]; split <;> omega
  have egl : ∀ z, getLen (X ++ z) = (f.data.length, (lenB f.data.length).length, 0) := fun z => by rw [← hX]; exact getLen_lenB (by omega) f.masked z
  have XL : X.length = (lenB f.data.length).length := by rw [ex]; simp; omega
  have YL : Y.length = f.data.length := by rw [← hY]; split <;> simp [turn_length]
  generalize hLn : (lenB f.data.length).length = n at *
  have egl' : ∀ z, getLen (X ++ z) = (f.data.length, n, 0) := egl
  rw [e0]
  simp only [List.cons_append, List.append_assoc]
  have ehead : (X ++ ((if f.masked = true then f.key.l else []) ++ (Y ++ q))).headD 0 = b1 := by rw [ex]; rfl
  rw [frGet_cons, ehead, egl' _, ehi]
  have c1 : frBad (hd0 f) b1 = false := by
    rw [← Bool.not_eq_true]
    simp only [frBad, eop, efin, ebits, hkn, Bool.or_eq_true, Bool.and_eq_true, bne_iff_ne, Bool.not_eq_true', decide_eq_true_eq]
    rintro (((h | h) | ⟨h, h2⟩) | ⟨h, h2⟩)
    · exact h rfl
    · simp at h
    · rw [(ctl_small hf h).1] at h2; simp at h2
    · have := (ctl_small hf h).2
      rw [e126, if_pos (by omega)] at h2; omega
  rw [c1, cond_false]
  unfold frTail
  dsimp only
  rw [eop, efin, if_neg (by decide), if_neg (by decide), if_neg (by omega)]
  have lenAll : (X ++ ((if f.masked = true then f.key.l else []) ++ (Y ++ q))).length + 1 = 1 + n + (if f.masked = true then 4 else 0) + f.data.length + q.length := by
    cases f.masked <;> simp [XL, YL, Key.l] <;> omega
  rw [lenAll]
  have eApp : hd0 f :: (X ++ ((if f.masked = true then f.key.l else []) ++ (Y ++ q))) = (hd0 f :: X) ++ ((if f.masked = true then f.key.l else []) ++ (Y ++ q)) := rfl
  have hl0 : (hd0 f :: X).length = 1 + n := by simp [XL]; omega
  have lfull : (hd0 f :: (X ++ ((if f.masked = true then f.key.l else []) ++ Y))).length = 1 + n + (if f.masked = true then 4 else 0) + f.data.length := by
    cases f.masked <;> simp [XL, YL, Key.l] <;> omega
  rw [lfull]
  cases hmk : f.masked with
  | true =>
    simp only [hmk, if_true, true_and] at lenAll lfull hY ehi ⊢
    rw [if_neg (by omega), if_neg (by omega)]
    have hk : keyAt ((hd0 f :: X) ++ (f.key.l ++ (Y ++ q))) (1 + n) = f.key := by rw [← hl0]; exact keyAt_put _ _ _
    have hdr : (((hd0 f :: X) ++ (f.key.l ++ (Y ++ q))).drop (1 + n + 4)).take f.data.length = Y := by
      rw [← List.append_assoc, List.drop_left' (by simp [Key.l, XL]; omega), List.take_left' YL]
    rw [List.cons_append] at hk hdr
    rw [hk, hdr, ← hY, turn_turn]
    obtain ⟨f1, f2, f3, f4, f5⟩ := f
    simp at hmk; subst hmk; rfl
  | false =>
    simp only [hmk, Bool.false_eq_true, if_false, false_and, Nat.add_zero, List.nil_append] at lenAll lfull hY ehi ⊢
    rw [if_neg (by omega)]
    have hdr : (((hd0 f :: X) ++ (Y ++ q)).drop (1 + n)).take f.data.length = Y := by
      rw [List.drop_left' hl0, List.take_left' YL]
    have hk := hkey hmk
    rw [List.cons_append] at hdr
    rw [hdr, turn_zero, ← hY]
    obtain ⟨f1, f2, f3, f4, f5⟩ := f
    simp at hmk hk; subst hmk; subst hk; simp
theorem look_put {f : Fr} {masked : Bool} {most : Nat} (hf : formF f = true) (hd : f.data.length ≤ most) (hm : most ≤ 65536) (hmk : f.masked = masked) (q : List UInt8) : lookM masked most (frPut f ++ q) = (f, (frPut f).length, 0) := by
  have hg := frGet_put hf hd hm q
  unfold lookM
  have e0 := frPut_eq f
  obtain ⟨b1, r1, ex, e126, ehi, erl⟩ := lenB_head (n := f.data.length) f.masked
  rw [ex] at e0
  have hl : 1 < (frPut f ++ q).length := by rw [e0]; simp
  rw [if_pos hl]
  have h91 : (frGet ((frPut f ++ q).take 1) most).2.2 ≠ 91 := by
    intro h
    have := frGet_more (p := (frPut f ++ q).take 1) (q := (frPut f ++ q).drop 1) (most := most) (by omega)
    rw [List.take_append_drop, hg] at this
    rw [← this] at h; simp at h
  have hb : decide (128 ≤ ((frPut f ++ q).getD 1 0).toNat) = masked := by
    have e1 : (frPut f ++ q).getD 1 0 = b1 := by rw [e0]; rfl
    rw [e1, ehi, hmk]
  rw [if_neg h91, hb, if_neg (by simp), hg]
/-- frames, as they may be -/
def okFs (masked : Bool) (most : Nat) (fs : List Fr) : Prop := ∀ f ∈ fs, formF f = true ∧ f.data.length ≤ most ∧ f.masked = masked
def putAll (fs : List Fr) : List UInt8 := fs.flatMap frPut
theorem parse_put {masked : Bool} {most : Nat} (hm : most ≤ 65536) : ∀ (fs : List Fr) (q : List UInt8), okFs masked most fs → parse masked most (putAll fs ++ q) = (fs ++ (parse masked most q).1, (parse masked most q).2)
  | [], q, _ => by simp [putAll]
  | f :: fs, q, h => by
    obtain ⟨h1, h2, h3⟩ := h f (by simp)
    have ih := parse_put hm fs q (fun g hg => h g (List.mem_cons_of_mem _ hg))
    have e : putAll (f :: fs) ++ q = frPut f ++ (putAll fs ++ q) := by simp [putAll]
    rw [e, parse_eq, look_put h1 h2 hm h3]
    simp only [if_true]
    rw [List.drop_left' rfl, ih]
    simp
end Go.Proofs.YtjdnjlnfcbaokaaGreat

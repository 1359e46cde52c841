/-
  PLAIN LAWS, 1: what moves on: bytes and frames stay what they are, in order; when nothing more moves. Own work.
-/
import Derived.Test.YtjdnjlnfcbaokaaSp17
set_option linter.unusedVariables false
set_option linter.unusedSimpArgs false
set_option maxRecDepth 20000
namespace Go.Proofs.Ytjdnjlnfcbaokaa
open Go Go.Lg

/-- a frame without its mask -/
def und (f : Fr) : Fr := { f with masked := false, key := Key.zero }
theorem okF_und {f : Fr} (h : okF f) : und f = f := by
  obtain ⟨h1, h2, h3⟩ := h
  obtain ⟨a, b, c, d, e⟩ := f
  simp only at h3; subst h3
  simp only [formF, Bool.and_eq_true, Bool.false_or, decide_eq_true_eq] at h1
  simp [und, h1.2]
theorem und_dress (x : Lm) {f : Fr} (h : okF f) : und (x.dress f).1 = f := by
  have h0 := okF_und h
  unfold Lm.dress
  generalize drawNext x.draw = d
  cases x.masks with
  | true => simp only [if_true]; exact h0
  | false => simp only [Bool.false_eq_true, if_false]; exact h0
/-- a frame as it goes out -/
structure OutF (masks : Bool) (g : Fr) : Prop where
  form : formF g = true
  len : g.data.length ≤ 65536
  masked : g.masked = masks
theorem dress_out (x : Lm) {f : Fr} (h : okF f) : OutF x.masks (x.dress f).1 := by
  obtain ⟨h1, h2, h3⟩ := h
  unfold Lm.dress
  generalize drawNext x.draw = d
  cases hm : x.masks with
  | true =>
    simp only [if_true]
    refine ⟨?_, h2, rfl⟩
    simp only [formF, Bool.and_eq_true] at h1
    simp [formF, h1.1.1, h1.1.2]
  | false => simp only [Bool.false_eq_true, if_false]; exact ⟨h1, h2, h3⟩
structure Moved (x y : Lm) (gs : List Fr) : Prop where
  bytes : y.ring ++ y.tail = x.ring ++ x.tail ++ putAll gs
  frames : gs.map und ++ (y.ctl ++ y.rest) = x.ctl ++ x.rest
  outs : ∀ g ∈ gs, OutF x.masks g
theorem push_bytes (x : Lm) : x.push.ring ++ x.push.tail = x.ring ++ x.tail := by
  show (x.ring ++ x.tail.take _) ++ x.tail.drop _ = _
  rw [List.append_assoc, List.take_append_drop]
theorem moveF_moved : ∀ (k : Nat) {x : Lm}, x.Ok → ∃ gs, Moved x (Lm.moveF k x) gs
  | 0, x, h => ⟨[], by simp [putAll, Lm.moveF], by simp [Lm.moveF], by simp⟩
  | k + 1, x, h => by
    unfold Lm.moveF
    split
    · rename_i ht
      cases hn : x.push.next with
      | none => exact ⟨[], by simp [putAll, push_bytes], rfl, by simp⟩
      | some q =>
        obtain ⟨f, y⟩ := q
        obtain ⟨h1, h2, h3⟩ := h.push.next hn
        have hl := frPut_length f h3
        have hy : ({ y with tail := frPut f } : Lm).Ok := ⟨h1.message, h1.frame, h1.most, h1.mm, h1.draw, h1.ctl, h1.rest, by show (frPut f).length ≤ _; omega⟩
        obtain ⟨gs, m1, m2, m3⟩ := moveF_moved k hy
        have hr := next_ring hn
        have al := alike_next hn
        refine ⟨f :: gs, ?_, ?_, ?_⟩
        · show (Lm.moveF k { y with tail := frPut f }).ring ++ (Lm.moveF k { y with tail := frPut f }).tail = _
          rw [m1]
          have e := push_bytes x
          rw [ht, List.append_nil] at e
          show y.ring ++ frPut f ++ putAll gs = _
          rw [hr, e]; simp [putAll]
        · show (f :: gs).map und ++ ((Lm.moveF k { y with tail := frPut f }).ctl ++ (Lm.moveF k { y with tail := frPut f }).rest) = _
          rw [List.map_cons, List.cons_append, m2]
          show und f :: (y.ctl ++ y.rest) = _
          rcases next_cases x.push with ⟨c1, c2, c3⟩ | ⟨g, r, c1, c3⟩ | ⟨g, r, c1, c2, c3⟩
          · rw [c3] at hn; simp at hn
          · rw [c3] at hn
            simp only [Option.some.injEq] at hn
            have hg : okF g := h.ctl g (by have : x.ctl = g :: r := c1; rw [this]; simp)
            have e1 := und_dress { x.push with ctl := r } hg
            have e2 := dress_ctl { x.push with ctl := r } g
            rw [hn] at e1 e2
            simp only at e1 e2
            rw [e1, e2.1, e2.2]
            have : x.ctl = g :: r := c1
            rw [this]; rfl
          · rw [c3] at hn
            simp only [Option.some.injEq] at hn
            have hc : x.rest = g :: r := c2
            have hc1 : x.ctl = [] := c1
            have hg : okF g := h.rest g (by rw [hc]; simp)
            have e1 := und_dress { x.push with rest := r } hg
            have e2 := dress_ctl { x.push with rest := r } g
            rw [hn] at e1 e2
            simp only at e1 e2
            rw [e1, e2.1, e2.2]
            show g :: (x.ctl ++ r) = _
            rw [hc1, hc]; rfl
        · intro g hg
          simp only [List.mem_cons] at hg
          rcases hg with rfl | hg
          · rcases next_cases x.push with ⟨c1, c2, c3⟩ | ⟨g', r, c1, c3⟩ | ⟨g', r, c1, c2, c3⟩
            · rw [c3] at hn; simp at hn
            · rw [c3] at hn
              simp only [Option.some.injEq] at hn
              have hg : okF g' := h.ctl g' (by have : x.ctl = g' :: r := c1; rw [this]; simp)
              have e1 := dress_out { x.push with ctl := r } hg
              rw [hn] at e1; exact e1
            · rw [c3] at hn
              simp only [Option.some.injEq] at hn
              have hg : okF g' := h.rest g' (by have : x.rest = g' :: r := c2; rw [this]; simp)
              have e1 := dress_out { x.push with rest := r } hg
              rw [hn] at e1; exact e1
          · have := m3 g hg
            have e : y.masks = x.masks := al.masks
            exact ⟨this.form, this.len, by rw [this.masked]; exact e⟩
    · exact ⟨[], by simp [putAll, push_bytes], rfl, by simp⟩
theorem move_moved {x : Lm} (h : x.Ok) : ∃ gs, Moved x x.move gs := moveF_moved _ h
theorem frPut_ne (f : Fr) : frPut f ≠ [] := by unfold frPut; split <;> simp
/-- when nothing more moves on: the ring is full, or there is nothing more -/
theorem moveF_end : ∀ (k : Nat) {x : Lm}, x.ctl.length + x.rest.length < k → x.ring.length ≤ x.out →
    ((Lm.moveF k x).tail ≠ [] ∧ (Lm.moveF k x).ring.length = x.out) ∨ ((Lm.moveF k x).tail = [] ∧ (Lm.moveF k x).ctl = [] ∧ (Lm.moveF k x).rest = [])
  | 0, x, h, _ => by omega
  | k + 1, x, h, hr => by
    unfold Lm.moveF
    split
    · rename_i ht
      cases hn : x.push.next with
      | none =>
        rcases next_cases x.push with ⟨c1, c2, c3⟩ | ⟨g, r, c1, c3⟩ | ⟨g, r, c1, c2, c3⟩
        · exact .inr ⟨ht, c1, c2⟩
        · rw [c3] at hn; simp at hn
        · rw [c3] at hn; simp at hn
      | some q =>
        obtain ⟨f, y⟩ := q
        have hlen := next_len hn
        have hp := push_same x
        rw [hp.1, hp.2] at hlen
        have hro := next_ring hn
        have al := alike_next hn
        have hpr : x.push.ring.length ≤ x.out := by show (x.ring ++ x.tail.take _).length ≤ _; simp; omega
        have e : y.out = x.out := al.out
        have := moveF_end k (x := { y with tail := frPut f }) (by show y.ctl.length + y.rest.length < k; omega) (by show y.ring.length ≤ y.out; rw [hro, e]; exact hpr)
        rcases this with ⟨a1, a2⟩ | h2
        · exact .inl ⟨a1, by rw [a2]; exact e⟩
        · exact .inr h2
    · rename_i ht
      refine .inl ⟨ht, ?_⟩
      have : ¬ x.push.tail = [] := ht
      have h2 : x.tail.drop (min (x.out - x.ring.length) x.tail.length) ≠ [] := this
      have h3 : ¬ (x.tail.length ≤ min (x.out - x.ring.length) x.tail.length) := fun h4 => h2 (List.drop_eq_nil_of_le h4)
      show (x.ring ++ x.tail.take (min (x.out - x.ring.length) x.tail.length)).length = x.out
      simp; omega
theorem move_end {x : Lm} (hr : x.ring.length ≤ x.out) : (x.move.tail ≠ [] ∧ x.move.ring.length = x.out) ∨ (x.move.tail = [] ∧ x.move.ctl = [] ∧ x.move.rest = []) := moveF_end _ (by omega) hr
theorem move_ring {x : Lm} (hr : x.ring.length ≤ x.out) : x.move.ring.length ≤ x.out := by
  have key : ∀ (k : Nat) {x : Lm}, x.ring.length ≤ x.out → (Lm.moveF k x).ring.length ≤ x.out := by
    intro k
    induction k with
    | zero => intro x h; exact h
    | succ k ih =>
      intro x h
      have hpr : x.push.ring.length ≤ x.out := by show (x.ring ++ x.tail.take _).length ≤ _; simp; omega
      unfold Lm.moveF
      split
      · cases hn : x.push.next with
        | none => exact hpr
        | some q =>
          obtain ⟨f, y⟩ := q
          have e : y.out = x.out := (alike_next hn).out
          have := ih (x := { y with tail := frPut f }) (by show y.ring.length ≤ y.out; rw [next_ring hn, e]; exact hpr)
          exact e ▸ this
      · exact hpr
  exact key _ hr
/-- what stands still: as 'move' leaves it -/
structure Still (x : Lm) : Prop where
  ring : x.ring.length ≤ x.out
  stop : (x.tail ≠ [] ∧ x.ring.length = x.out) ∨ (x.tail = [] ∧ x.ctl = [] ∧ x.rest = [])
theorem move_still {x : Lm} (hr : x.ring.length ≤ x.out) : Still x.move := by
  have e : x.move.out = x.out := (alike_move x).out
  exact ⟨by rw [e]; exact move_ring hr, by rw [e]; exact move_end hr⟩
theorem Still.quiet {x : Lm} (h : Still x) (ho : 0 < x.out) : x.quiet = x.ring.isEmpty := by
  rcases h.stop with ⟨h1, h2⟩ | ⟨h1, h2, h3⟩
  · have : x.ring ≠ [] := fun e => by rw [e] at h2; simp at h2; omega
    cases hr : x.ring with
    | nil => exact absurd hr this
    | cons a l => simp [Lm.quiet, hr]
  · simp [Lm.quiet, h1, h2, h3]
/-! ### How much is to go out -/
def frLen (m : Bool) (f : Fr) : Nat := 1 + (lenB f.data.length).length + (if m = true then 4 else 0) + f.data.length
def frSum (m : Bool) : List Fr → Nat
  | [] => 0
  | f :: l => frLen m f + frSum m l
theorem frSum_append (m : Bool) : ∀ (k l : List Fr), frSum m (k ++ l) = frSum m k + frSum m l
  | [], l => by simp [frSum]
  | f :: k, l => by simp [frSum, frSum_append m k l]; omega
theorem putAll_len {m : Bool} : ∀ {gs : List Fr}, (∀ g ∈ gs, OutF m g) → (putAll gs).length = frSum m (gs.map und)
  | [], _ => rfl
  | g :: gs, h => by
    have h1 := (h g (by simp)).masked
    have ih := putAll_len (gs := gs) fun q hq => h q (List.mem_cons_of_mem _ hq)
    have e : putAll (g :: gs) = frPut g ++ putAll gs := by simp [putAll]
    rw [e, List.length_append, ih, List.map_cons, frSum, frPut_len]
    simp only [frLen, und, h1]
def Lm.pend (x : Lm) : Nat := x.ring.length + x.tail.length + frSum x.masks (x.ctl ++ x.rest)
theorem pend_move {x : Lm} (h : x.Ok) : x.move.pend = x.pend := by
  obtain ⟨gs, m1, m2, m3⟩ := move_moved h
  have e : x.move.masks = x.masks := (alike_move x).masks
  have l1 := congrArg List.length m1
  have l2 := congrArg (frSum x.masks) m2
  simp only [List.length_append] at l1
  rw [frSum_append] at l2
  rw [putAll_len m3] at l1
  unfold Lm.pend
  rw [e]; omega
theorem pend_out {x : Lm} (h : x.Ok) (n : Int) : (x.out' n).pend = x.pend - (x.peek n).length := by
  have hok : ({ x with ring := x.ring.drop n.toNat } : Lm).Ok := ⟨h.message, h.frame, h.most, h.mm, h.draw, h.ctl, h.rest, h.tail⟩
  have := pend_move hok
  have e : x.out' n = ({ x with ring := x.ring.drop n.toNat } : Lm).move := rfl
  rw [e, this]
  simp only [Lm.pend, Lm.peek, List.length_drop, List.length_take]
  omega
/-- the tail is of a frame that isn't too long -/
theorem tail_move {x : Lm} {T : Nat} (h : x.Ok) (ht : x.tail.length ≤ T) (hf : ∀ f ∈ x.ctl ++ x.rest, frLen x.masks f ≤ T) : x.move.tail.length ≤ T := by
  have key : ∀ (k : Nat) {x : Lm}, x.Ok → x.tail.length ≤ T → (∀ f ∈ x.ctl ++ x.rest, frLen x.masks f ≤ T) → (Lm.moveF k x).tail.length ≤ T := by
    intro k
    induction k with
    | zero => intro x _ h _; exact h
    | succ k ih =>
      intro x h ht hf
      unfold Lm.moveF
      split
      · cases hn : x.push.next with
        | none => show (x.tail.drop _).length ≤ T; simp; omega
        | some q =>
          obtain ⟨f, y⟩ := q
          obtain ⟨h1, h2, h3⟩ := h.push.next hn
          have hl := frPut_length f h3
          have hy : ({ y with tail := frPut f } : Lm).Ok := ⟨h1.message, h1.frame, h1.most, h1.mm, h1.draw, h1.ctl, h1.rest, by show (frPut f).length ≤ _; omega⟩
          have al := alike_next hn
          have em : y.masks = x.masks := al.masks
          have dl : ∀ (z : Lm) (g : Fr), okF g → (frPut (z.dress g).1).length = frLen z.masks g := fun z g hg => by
            have e1 := (dress_out z hg).masked
            have e2 : (z.dress g).1.data = g.data := by unfold Lm.dress; generalize drawNext z.draw = d; cases z.masks <;> rfl
            rw [frPut_len, e1, e2]; rfl
          have hsub : ∃ g, okF g ∧ g ∈ x.ctl ++ x.rest ∧ (frPut f).length = frLen x.masks g ∧ ∀ q ∈ y.ctl ++ y.rest, q ∈ x.ctl ++ x.rest := by
            rcases next_cases x.push with ⟨c1, c2, c3⟩ | ⟨g, r, c1, c3⟩ | ⟨g, r, c1, c2, c3⟩
            · rw [c3] at hn; simp at hn
            · rw [c3] at hn
              simp only [Option.some.injEq] at hn
              have c1' : x.ctl = g :: r := c1
              have hg : okF g := h.ctl g (by rw [c1']; simp)
              have e1 := dl { x.push with ctl := r } g hg
              have e2 := dress_ctl { x.push with ctl := r } g
              rw [hn] at e1 e2
              simp only at e1 e2
              refine ⟨g, hg, by rw [c1']; simp, e1, ?_⟩
              intro q hq
              rw [e2.1, e2.2] at hq
              have hq' : q ∈ r ++ x.rest := hq
              rw [c1']; simp at hq' ⊢; rcases hq' with h | h
              · exact .inr (.inl h)
              · exact .inr (.inr h)
            · rw [c3] at hn
              simp only [Option.some.injEq] at hn
              have c2' : x.rest = g :: r := c2
              have hg : okF g := h.rest g (by rw [c2']; simp)
              have e1 := dl { x.push with rest := r } g hg
              have e2 := dress_ctl { x.push with rest := r } g
              rw [hn] at e1 e2
              simp only at e1 e2
              refine ⟨g, hg, by rw [c2']; simp, e1, ?_⟩
              intro q hq
              rw [e2.1, e2.2] at hq
              have hq' : q ∈ x.ctl ++ r := hq
              rw [c2']; simp at hq' ⊢; rcases hq' with h | h
              · exact .inl h
              · exact .inr (.inr h)
          obtain ⟨g, _, hg2, hg3, hg4⟩ := hsub
          refine ih hy (by show (frPut f).length ≤ T; rw [hg3]; exact hf g hg2) ?_
          intro q hq
          show frLen y.masks q ≤ T
          rw [em]; exact hf q (hg4 q hq)
      · show (x.tail.drop _).length ≤ T; simp; omega
  exact key _ h ht hf
theorem ctl_move {x : Lm} {f : Fr} (h : f ∈ x.move.ctl) : f ∈ x.ctl := by
  obtain ⟨⟨i, h1⟩, _⟩ := moveF_drop (k := x.ctl.length + x.rest.length + 1) (x := x)
  change x.move.ctl = _ at h1
  rw [h1] at h; exact List.mem_of_mem_drop h
theorem rest_move {x : Lm} {f : Fr} (h : f ∈ x.move.rest) : f ∈ x.rest := by
  obtain ⟨_, ⟨i, h1⟩⟩ := moveF_drop (k := x.ctl.length + x.rest.length + 1) (x := x)
  change x.move.rest = _ at h1
  rw [h1] at h; exact List.mem_of_mem_drop h
theorem frLen_le (m : Bool) (f : Fr) (h : f.data.length ≤ 65535) : frLen m f ≤ f.data.length + 8 := by
  unfold frLen
  have : (lenB f.data.length).length ≤ 3 := by
    unfold lenB
    split
    · simp
    · split
      · simp [numB_length]
      · omega
  split <;> omega
theorem cutF_data {op : Nat} {d : List UInt8} {most : Nat} : ∀ f ∈ cutF op d most, f.data.length ≤ most := by
  intro f hf
  simp only [cutF, List.mem_map] at hf
  obtain ⟨i, _, rfl⟩ := hf
  simp; omega
end Go.Proofs.Ytjdnjlnfcbaokaa

/-
  SPECS OF 'G' PROGRAMS: memory as a list of parts that are apart ('As'), 'Tri ρ L m B': from memory L, m comes to an end in one that B allows, and leaves all other memory alone. Own work.
-/
import Derived.Test.YtjdnjlnfcbaokaaGreatLgHeavy
import Derived.Below
set_option linter.unusedVariables false
set_option linter.unusedSimpArgs false
namespace Go.Lg
open Go

/-! ### 1. Heaps, apart -/
abbrev Hp := Nat → Option Obj
def Hp.or (h k : Hp) : Hp := fun b => match h b with | some o => some o | none => k b
def Hp.dis (h k : Hp) : Prop := ∀ b, h b = none ∨ k b = none
def Hp.none : Hp := fun _ => Option.none
def Hp.one (b : Nat) (o : Obj) : Hp := fun x => if x = b then some o else Option.none
def Hp.In (h : Hp) (w : World) : Prop := ∀ b o, h b = some o → w.heap[b]? = some o
def Hp.le (h k : Hp) : Prop := ∀ b o, h b = some o → k b = some o
abbrev Assn := Hp → Prop
abbrev As := List Assn
def sat : As → Hp → Prop
  | [], h => h = Hp.none
  | A :: L, h => ∃ h1 h2, Hp.dis h1 h2 ∧ h = h1.or h2 ∧ A h1 ∧ sat L h2
theorem Hp.or_none (h : Hp) : h.or Hp.none = h := by funext b; simp only [Hp.or, Hp.none]; cases h b <;> rfl
theorem Hp.none_or (h : Hp) : Hp.none.or h = h := rfl
theorem Hp.dis_none (h : Hp) : h.dis Hp.none := fun _ => .inr rfl
theorem Hp.dis.symm {h k : Hp} (d : h.dis k) : k.dis h := fun b => (d b).symm
theorem Hp.or_comm {h k : Hp} (d : h.dis k) : h.or k = k.or h := by
  funext b
  simp only [Hp.or]
  rcases d b with e | e <;> rw [e] <;> first | (cases k b <;> rfl) | (cases h b <;> rfl)
theorem Hp.or_assoc (h k l : Hp) : (h.or k).or l = h.or (k.or l) := by funext b; simp only [Hp.or]; cases h b <;> rfl
theorem Hp.dis_or {h k l : Hp} : h.dis (k.or l) ↔ h.dis k ∧ h.dis l := by
  constructor
  · intro d
    refine ⟨fun b => ?_, fun b => ?_⟩
    · rcases d b with e | e
      · exact .inl e
      · simp only [Hp.or] at e; cases hk : k b with
        | none => exact .inr rfl
        | some o => rw [hk] at e; simp at e
    · rcases d b with e | e
      · exact .inl e
      · simp only [Hp.or] at e; cases hk : k b with
        | none => rw [hk] at e; exact .inr e
        | some o => rw [hk] at e; simp at e
  · rintro ⟨d1, d2⟩ b
    rcases d1 b with e | e
    · exact .inl e
    · rcases d2 b with e2 | e2
      · exact .inl e2
      · exact .inr (by simp [Hp.or, e, e2])
theorem Hp.or_dis {h k l : Hp} : (h.or k).dis l ↔ h.dis l ∧ k.dis l := by
  constructor
  · intro d; have := Hp.dis_or.1 d.symm; exact ⟨this.1.symm, this.2.symm⟩
  · rintro ⟨d1, d2⟩; exact (Hp.dis_or.2 ⟨d1.symm, d2.symm⟩).symm
theorem Hp.In.left {h k : Hp} {w : World} (i : (h.or k).In w) : h.In w := fun b o e => i b o (by simp [Hp.or, e])
theorem Hp.In.right {h k : Hp} {w : World} (d : h.dis k) (i : (h.or k).In w) : k.In w := by rw [Hp.or_comm d] at i; exact i.left
theorem Hp.In.or {h k : Hp} {w : World} (i : h.In w) (j : k.In w) : (h.or k).In w := fun b o e => by
  simp only [Hp.or] at e
  cases hb : h b with
  | some o' => rw [hb] at e; exact i b o (hb.trans e)
  | none => rw [hb] at e; exact j b o e
theorem sat_append {L M : As} {h : Hp} : sat (L ++ M) h ↔ ∃ h1 h2, Hp.dis h1 h2 ∧ h = h1.or h2 ∧ sat L h1 ∧ sat M h2 := by
  induction L generalizing h with
  | nil =>
    constructor
    · intro hm; exact ⟨Hp.none, h, (Hp.dis_none h).symm, rfl, rfl, hm⟩
    · rintro ⟨h1, h2, _, rfl, rfl, hm⟩; exact hm
  | cons A L ih =>
    constructor
    · rintro ⟨h1, h2, d, rfl, ha, hm⟩
      obtain ⟨h3, h4, d2, rfl, hl, hm⟩ := ih.1 hm
      obtain ⟨d3, d4⟩ := Hp.dis_or.1 d
      exact ⟨h1.or h3, h4, Hp.or_dis.2 ⟨d4, d2⟩, (Hp.or_assoc _ _ _).symm, ⟨h1, h3, d3, rfl, ha, hl⟩, hm⟩
    · rintro ⟨h1, h2, d, rfl, ⟨h3, h4, d2, rfl, ha, hl⟩, hm⟩
      obtain ⟨d3, d4⟩ := Hp.or_dis.1 d
      exact ⟨h3, h4.or h2, Hp.dis_or.2 ⟨d2, d3⟩, Hp.or_assoc _ _ _, ha, ih.2 ⟨h4, h2, d4, rfl, hl, hm⟩⟩
theorem sat_perm {L M : As} (p : L.Perm M) {h : Hp} (hs : sat L h) : sat M h := by
  induction p generalizing h with
  | nil => exact hs
  | cons A _ ih => obtain ⟨h1, h2, d, e, ha, hl⟩ := hs; exact ⟨h1, h2, d, e, ha, ih hl⟩
  | swap A B L =>
    obtain ⟨h1, h2, d, rfl, ha, h3, h4, d2, rfl, hb, hl⟩ := hs
    obtain ⟨d3, d4⟩ := Hp.dis_or.1 d
    refine ⟨h3, h1.or h4, Hp.dis_or.2 ⟨d3.symm, d2⟩, ?_, hb, h1, h4, d4, rfl, ha, hl⟩
    rw [← Hp.or_assoc, Hp.or_comm d3, Hp.or_assoc]
  | trans _ _ ih1 ih2 => exact ih2 (ih1 hs)

/-! ### 2. Specs -/
structure Ext (w w' : World) : Prop where
  os : w'.os = w.os
  tape : w'.tape = w.tape
  output : w'.output = w.output
  size : w.heap.size ≤ w'.heap.size
theorem Ext.refl (w : World) : Ext w w := ⟨rfl, rfl, rfl, Nat.le_refl _⟩
theorem Ext.trans {a b c : World} (h : Ext a b) (k : Ext b c) : Ext a c := ⟨k.os.trans h.os, k.tape.trans h.tape, k.output.trans h.output, Nat.le_trans h.size k.size⟩
/-- the world is L, and R apart from it -/
def Stands (L : As) (R : Hp) (w : World) : Prop := ∃ h, sat L h ∧ h.dis R ∧ (h.or R).In w
theorem Stands.perm {L M : As} {R : Hp} {w : World} (h : Stands L R w) (p : L.Perm M) : Stands M R w := by
  obtain ⟨k, hs, d, i⟩ := h; exact ⟨k, sat_perm p hs, d, i⟩
theorem Stands.same {L : As} {R : Hp} {w w' : World} (h : Stands L R w) (e : w'.heap = w.heap) : Stands L R w' := by
  obtain ⟨k, hs, d, i⟩ := h; exact ⟨k, hs, d, fun b o hb => by rw [e]; exact i b o hb⟩
theorem Stands.drop {L M : As} {R : Hp} {w : World} (h : Stands (M ++ L) R w) : Stands L R w := by
  obtain ⟨k, hs, d, i⟩ := h
  obtain ⟨h1, h2, d2, rfl, _, hl⟩ := sat_append.1 hs
  obtain ⟨d3, d4⟩ := Hp.or_dis.1 d
  refine ⟨h2, hl, d4, Hp.In.or ?_ (i.right d)⟩
  exact (i.left).right d2
variable {α β σ τ : Type} {ρ : Hp} {L M : As} {B : α → As → Prop} {C : β → As → Prop}
def Tri (ρ : Hp) (L : As) (m : G α) (B : α → As → Prop) : Prop :=
  ∀ w R, ρ.le R → Stands L R w → m.run w (fun r w' => Ext w w' ∧ ∃ L', B r L' ∧ Stands L' R w')
theorem Tri.bnd {m : G α} {f : α → G β} (h1 : Tri ρ L m B) (h2 : ∀ r L', B r L' → Tri ρ L' (f r) C) : Tri ρ L (Lg.bnd m f) C := fun w R hR hs =>
  m.mono (fun r w' ⟨e, L', hb, hs'⟩ => (f r).mono (fun r2 w2 ⟨e2, h⟩ => ⟨e.trans e2, h⟩) (h2 r L' hb w' R hR hs')) (h1 w R hR hs)
theorem Tri.conseq {m : G α} {B' : α → As → Prop} (h1 : Tri ρ L m B) (h2 : ∀ r L', B r L' → B' r L') : Tri ρ L m B' := fun w R hR hs =>
  m.mono (fun r w' ⟨e, L', hb, hs'⟩ => ⟨e, L', h2 r L' hb, hs'⟩) (h1 w R hR hs)
theorem Tri.perm {m : G α} (p : L.Perm M) (h : Tri ρ M m B) : Tri ρ L m B := fun w R hR hs => h w R hR (hs.perm p)
/-- the result's parts in another order, some of them dropped -/
theorem Tri.post {m : G α} {B' : α → As → Prop} (h1 : Tri ρ L m B) (h2 : ∀ r L', B r L' → ∃ M' D, B' r M' ∧ L'.Perm (D ++ M')) : Tri ρ L m B' := fun w R hR hs =>
  m.mono (fun r w' ⟨e, L', hb, hs'⟩ => let ⟨M', D, hb', p⟩ := h2 r L' hb; ⟨e, M', hb', (hs'.perm p).drop⟩) (h1 w R hR hs)
theorem Tri.drop {m : G α} {A : Assn} (h : Tri ρ L m B) : Tri ρ (A :: L) m B := fun w R hR hs => h w R hR (Stands.drop (M := [A]) hs)
/-- the n-th part put first -/
def pickAt : As → Nat → Option (Assn × As)
  | [], _ => none
  | A :: L, 0 => some (A, L)
  | A :: L, n + 1 => match pickAt L n with | some (C, M) => some (C, A :: M) | none => none
theorem pickAt_perm : ∀ {L : As} {n : Nat} {A : Assn} {M : As}, pickAt L n = some (A, M) → L.Perm (A :: M)
  | [], _, _, _, h => by simp [pickAt] at h
  | A :: L, 0, _, _, h => by simp [pickAt] at h; obtain ⟨rfl, rfl⟩ := h; exact List.Perm.refl _
  | A :: L, n + 1, C, M, h => by
    simp only [pickAt] at h
    cases hp : pickAt L n with
    | none => rw [hp] at h; simp at h
    | some q =>
      obtain ⟨C', M'⟩ := q
      rw [hp] at h; simp at h
      obtain ⟨rfl, rfl⟩ := h
      exact ((pickAt_perm hp).cons A).trans (List.Perm.swap _ _ _)
theorem Tri.pick {m : G α} {A : Assn} (n : Nat) (hp : pickAt L n = some (A, M)) (h : Tri ρ (A :: M) m B) : Tri ρ L m B := h.perm (pickAt_perm hp)
/-- parts put first, one behind another (each index counts in what is left) -/
def pickAll : As → List Nat → Option As
  | L, [] => some L
  | L, i :: is => match pickAt L i with | some (A, M) => (match pickAll M is with | some N => some (A :: N) | none => none) | none => none
theorem pickAll_perm : ∀ {is : List Nat} {L N : As}, pickAll L is = some N → L.Perm N
  | [], L, N, h => by simp [pickAll] at h; subst h; exact List.Perm.refl _
  | i :: is, L, N, h => by
    simp only [pickAll] at h
    cases hp : pickAt L i with
    | none => rw [hp] at h; simp at h
    | some q =>
      obtain ⟨A, M⟩ := q
      rw [hp] at h
      simp only at h
      cases hq : pickAll M is with
      | none => rw [hq] at h; simp at h
      | some N' =>
        rw [hq] at h; simp at h; subst h
        exact (pickAt_perm hp).trans ((pickAll_perm hq).cons A)
theorem Tri.order {m : G α} (is : List Nat) (hp : pickAll L is = some M) (h : Tri ρ M m B) : Tri ρ L m B := h.perm (pickAll_perm hp)
/-- all but the first n parts let go -/
theorem Tri.keep {m : G α} {N : As} (h : Tri ρ N m B) (D : As) : Tri ρ (D ++ N) m B := fun w R hR hs => h w R hR (Stands.drop (M := D) hs)
/-- a part opened -/
theorem Tri.openA {m : G α} {A : Assn} {P : As → Prop} (ho : ∀ h, A h → ∃ N, P N ∧ sat N h) (hm : ∀ N, P N → Tri ρ (N ++ L) m B) : Tri ρ (A :: L) m B := fun w R hR ⟨h, ⟨h1, h2, d, e, ha, hl⟩, d2, i⟩ => by
  obtain ⟨N, hP, hN⟩ := ho h1 ha
  exact hm N hP w R hR ⟨h, sat_append.2 ⟨h1, h2, d, e, hN, hl⟩, d2, i⟩
/-- parts closed -/
theorem Tri.close {m : G α} {A : Assn} {N : As} (ho : ∀ h, sat N h → A h) (hm : Tri ρ (A :: L) m B) : Tri ρ (N ++ L) m B := fun w R hR ⟨h, hs, d2, i⟩ => by
  obtain ⟨h1, h2, d, e, hn, hl⟩ := sat_append.1 hs
  exact hm w R hR ⟨h, ⟨h1, h2, d, e, ho h1 hn, hl⟩, d2, i⟩
/-- the result's parts closed -/
theorem Tri.fold {m : G α} {N : As} {A : Assn} {P : α → Prop} (ho : ∀ h, sat N h → A h) (h : Tri ρ M m (fun r L' => P r ∧ L' = N ++ L)) : Tri ρ M m (fun r L' => P r ∧ L' = A :: L) := fun w R hR hs =>
  m.mono (fun r w' ⟨e, L', ⟨hp, hl⟩, k, hs', d2, i⟩ => by
    subst hl
    obtain ⟨h1, h2, d, e2, hn, hl⟩ := sat_append.1 hs'
    exact ⟨e, _, ⟨hp, rfl⟩, k, ⟨h1, h2, d, e2, ho h1 hn, hl⟩, d2, i⟩) (h w R hR hs)
theorem Tri.ret {x : α} (h : B x L) : Tri ρ L (Lg.ret x) B := fun w R hR hs => ⟨Ext.refl w, L, h, hs⟩
theorem Tri.retP {x : α} (h : ∃ M D, B x M ∧ L.Perm (D ++ M)) : Tri ρ L (Lg.ret x) B := fun w R hR hs => let ⟨M, D, hb, p⟩ := h; ⟨Ext.refl w, M, hb, (hs.perm p).drop⟩
theorem Tri.lt {x : α} {f : α → G β} (h : Tri ρ L (f x) C) : Tri ρ L (Lg.lt x f) C := h
theorem Tri.chk {c : Prop} {f : G β} (hc : c) (h : Tri ρ L f C) : Tri ρ L (Lg.chk c f) C := fun w R hR hs => ⟨hc, h w R hR hs⟩
theorem Tri.nn {a : Addr} {f : Addr → G β} (h : Tri ρ L (f a) C) : Tri ρ L (Lg.nn (some a) f) C := fun w R hR hs => ⟨a, rfl, h w R hR hs⟩
theorem Tri.drw {f : G β} (h : Tri ρ L f C) : Tri ρ L (Lg.drw f) C := fun w R hR hs => f.mono (fun _ _ ⟨e, k⟩ => ⟨⟨e.os, e.tape, e.output, e.size⟩, k⟩) (h w.drew R hR (hs.same rfl))
theorem Tri.drw2 {f g : G β} (h : Tri ρ L f C) (k : Tri ρ L g C) : Tri ρ L (Lg.drw2 f g) C := fun w R hR hs => ⟨Tri.drw h w R hR hs, Tri.drw k w R hR hs⟩
theorem Tri.ite {c : Bool} {f g : G β} (h : c = true → Tri ρ L f C) (k : c = false → Tri ρ L g C) : Tri ρ L (if c = true then f else g) C := by
  cases c <;> simp [h, k]
theorem Tri.bndS {m : G (σ ⊕ τ)} {f : σ → G τ} {D : σ → As → Prop} {C : τ → As → Prop} (h1 : Tri ρ L m (fun r L' => match r with | .inl s => D s L' | .inr t => C t L')) (h2 : ∀ s L', D s L' → Tri ρ L' (f s) C) : Tri ρ L (Lg.bnd m (sumK f)) C :=
  Tri.bnd h1 fun r L' hb => by
    cases r with
    | inl s => exact h2 s L' hb
    | inr t => exact Tri.ret hb
theorem Tri.inr {m : G τ} {C : σ ⊕ τ → As → Prop} (h : Tri ρ L m (fun r L' => C (.inr r) L')) : Tri ρ L (Lg.inr m) C := Tri.bnd h fun r L' hb => Tri.ret hb
theorem Tri.loop {S : Type} {step : (S → G α) → S → G α} {k : Nat} {s0 : S} (μ : S → Nat) (I : S → As → Prop)
    (hs : ∀ (again : S → G α) s L, I s L → (∀ s' L', I s' L' → μ s' < μ s → Tri ρ L' (again s') B) → Tri ρ L (step again s) B) (hk : μ s0 < k) (hI : I s0 L) : Tri ρ L (loopG step k s0) B := by
  induction k generalizing s0 L with
  | zero => omega
  | succ k ih => exact hs _ s0 L hI fun s' L' hI' hl => ih (by omega) hI'

theorem Tri.loopN {S : Type} {step : (S → G α) → S → G α} {k : Nat} {s0 : S} (I : Nat → S → As → Prop)
    (hs : ∀ (again : S → G α) n s L, I n s L → (∀ n' s' L', n' < n → I n' s' L' → Tri ρ L' (again s') B) → Tri ρ L (step again s) B) (n : Nat) (hk : n < k) (hI : I n s0 L) : Tri ρ L (loopG step k s0) B := by
  induction k generalizing s0 L n with
  | zero => omega
  | succ k ih => exact hs _ n s0 L hI fun n' s' L' hl hI' => ih n' (by omega) hI'

/-! ### 3. Cells -/
/-- a block of one's own: these cells -/
def pts (b : Nat) (cs : List Value) : Assn := fun h => ∃ e lo hi, (lo = hi ∨ cs.length ≤ lo) ∧ h = Hp.one b (.cells cs.toArray e (lo, hi))
/-- what is read there -/
def Cells (ρ : Hp) (L : As) (a : Addr) (l : List Value) : Prop := ∀ w R, ρ.le R → Stands L R w → rdN w a 0 l.length = some l
def Cell (ρ : Hp) (L : As) (a : Addr) (v : Value) : Prop := ∀ w R, ρ.le R → Stands L R w → w.cell? a = some v
def Rd (ρ : Hp) (L : As) (s : Sl) (sz : Nat) (l : List Value) : Prop := ∀ w R, ρ.le R → Stands L R w → rdSl w s sz = some l
theorem Addr.add_zero (a : Addr) : a.add 0 = a := rfl
theorem rdN_one {w : World} {a : Addr} {v : Value} : rdN w a 0 1 = some [v] ↔ w.cell? a = some v := by
  simp only [rdN, Addr.add_zero]
  cases w.cell? a <;> simp
theorem Cell.cells {a : Addr} {v : Value} (h : Cell ρ L a v) : Cells ρ L a [v] := fun w R hR hs => rdN_one.2 (h w R hR hs)
theorem Stands.tail {A : Assn} {R : Hp} {w : World} (h : Stands (A :: L) R w) : ∃ R', R.le R' ∧ Stands L R' w := by
  obtain ⟨k, ⟨h1, h2, d, rfl, ha, hl⟩, d2, i⟩ := h
  obtain ⟨d3, d4⟩ := Hp.or_dis.1 d2
  refine ⟨h1.or R, ?_, h2, hl, Hp.dis_or.2 ⟨d.symm, d4⟩, ?_⟩
  · intro b o e
    have : h1 b = none := by rcases d3 b with h | h; exact h; rw [e] at h; simp at h
    simp [Hp.or, this, e]
  · rw [Hp.or_comm d, Hp.or_assoc] at i; exact i
theorem Hp.le.trans {a b c : Hp} (h : a.le b) (k : b.le c) : a.le c := fun x o e => k x o (h x o e)
theorem Cells.tail {A : Assn} {a : Addr} {l : List Value} (h : Cells ρ L a l) : Cells ρ (A :: L) a l := fun w R hR hs => let ⟨R', hR', hs'⟩ := hs.tail; h w R' (hR.trans hR') hs'
theorem Cell.tail {A : Assn} {a : Addr} {v : Value} (h : Cell ρ L a v) : Cell ρ (A :: L) a v := fun w R hR hs => let ⟨R', hR', hs'⟩ := hs.tail; h w R' (hR.trans hR') hs'
theorem Rd.tail {A : Assn} {s : Sl} {sz : Nat} {l : List Value} (h : Rd ρ L s sz l) : Rd ρ (A :: L) s sz l := fun w R hR hs => let ⟨R', hR', hs'⟩ := hs.tail; h w R' (hR.trans hR') hs'
theorem Rd.perm {s : Sl} {sz : Nat} {l : List Value} (p : L.Perm M) (h : Rd ρ M s sz l) : Rd ρ L s sz l := fun w R hR hs => h w R hR (hs.perm p)
theorem Rd.app {s : Sl} {sz : Nat} {l : List Value} (N : As) (h : Rd ρ L s sz l) : Rd ρ (N ++ L) s sz l := by
  induction N with
  | nil => exact h
  | cons A N ih => exact ih.tail
theorem Stands.block {b : Nat} {cs : List Value} {R : Hp} {w : World} (h : Stands (pts b cs :: L) R w) : ∃ e lo hi, (lo = hi ∨ cs.length ≤ lo) ∧ w.heap[b]? = some (.cells cs.toArray e (lo, hi)) := by
  obtain ⟨k, ⟨h1, h2, d, rfl, ⟨e, lo, hi, hf, rfl⟩, hl⟩, d2, i⟩ := h
  exact ⟨e, lo, hi, hf, i b _ (by simp [Hp.or, Hp.one])⟩
theorem cell_of_block {w : World} {b : Nat} {cs : List Value} {e : TypeId} {fz : Nat × Nat} (h : w.heap[b]? = some (.cells cs.toArray e fz)) (i : Nat) : w.cell? ⟨b, i, none⟩ = cs[i]? := by
  simp [World.cell?, h]
theorem Cell.here {b i : Nat} {cs : List Value} {v : Value} (h : cs[i]? = some v) : Cell ρ (pts b cs :: L) ⟨b, i, none⟩ v := fun w R hR hs => by
  obtain ⟨e, lo, hi, hf, hb⟩ := hs.block
  rw [cell_of_block hb, h]
theorem addr_add (b o k : Nat) : (⟨b, o, none⟩ : Addr).add k = ⟨b, o + k, none⟩ := by
  unfold Addr.add
  split
  · rename_i h; subst h; rfl
  · rfl
theorem rdN_block {w : World} {b o : Nat} {cs : List Value} {e : TypeId} {fz : Nat × Nat} (h : w.heap[b]? = some (.cells cs.toArray e fz)) : ∀ {n i : Nat}, o + i + n ≤ cs.length → rdN w ⟨b, o, none⟩ i n = some ((cs.drop (o + i)).take n)
  | 0, i, _ => by simp [rdN]
  | n + 1, i, hl => by
    have h1 : cs[o + i]? = some cs[o + i] := List.getElem?_eq_getElem (by omega)
    simp only [rdN, addr_add, cell_of_block h, h1]
    rw [rdN_block h (by omega), List.drop_eq_getElem_cons (show o + i < cs.length by omega)]
    simp only [List.take_succ_cons, Nat.add_assoc]
theorem Cells.here {b i : Nat} {cs l : List Value} (hl : i + l.length ≤ cs.length) (h : (cs.drop i).take l.length = l) : Cells ρ (pts b cs :: L) ⟨b, i, none⟩ l := fun w R hR hs => by
  obtain ⟨e, lo, hi, hf, hb⟩ := hs.block
  rw [rdN_block hb (by omega), Nat.add_zero, h]
/-! ### 4. Reading -/
theorem Tri.ldV {a : Addr} {v : Value} {f : Value → G β} (hc : Cell ρ L a v) (h : Tri ρ L (f v) C) : Tri ρ L (Lg.ldV a f) C := fun w R hR hs => ⟨v, hc w R hR hs, h w R hR hs⟩
theorem Tri.ldI {k : IntKind} {a : Addr} {v : Int} {f : Int → G β} (hc : Cell ρ L a (.int k v)) (h : Tri ρ L (f v) C) : Tri ρ L (Lg.ldI k a f) C := fun w R hR hs => ⟨v, hc w R hR hs, h w R hR hs⟩
theorem Tri.ldB {a : Addr} {v : Bool} {f : Bool → G β} (hc : Cell ρ L a (.bool v)) (h : Tri ρ L (f v) C) : Tri ρ L (Lg.ldB a f) C := fun w R hR hs => ⟨v, hc w R hR hs, h w R hR hs⟩
theorem Tri.ldS {a : Addr} {v : ByteArray} {f : ByteArray → G β} (hc : Cell ρ L a (.string v)) (h : Tri ρ L (f v) C) : Tri ρ L (Lg.ldS a f) C := fun w R hR hs => ⟨v, hc w R hR hs, h w R hR hs⟩
theorem Tri.ldP {a : Addr} {v : Option Addr} {f : Option Addr → G β} (hc : Cell ρ L a (.pointer v)) (h : Tri ρ L (f v) C) : Tri ρ L (Lg.ldP a f) C := fun w R hR hs => ⟨v, hc w R hR hs, h w R hR hs⟩
theorem Tri.ldSl {a : Addr} (v : Sl) {f : Sl → G β} (hc : Cell ρ L a (.slice v.a v.n v.c)) (h : Tri ρ L (f v) C) : Tri ρ L (Lg.ldSl a f) C := fun w R hR hs => ⟨v, hc w R hR hs, h w R hR hs⟩
theorem Tri.ldG [Agg τ] {a : Addr} (v : τ) {f : τ → G β} (hl : (Agg.cells v).length = Agg.size τ) (hc : Cells ρ L a (Agg.cells v)) (h : Tri ρ L (f v) C) : Tri ρ L (Lg.ldG a f) C := fun w R hR hs => ⟨v, by rw [← hl]; exact hc w R hR hs, h w R hR hs⟩
theorem Tri.wld {f : World → G β} {P : World → Prop} (hp : ∀ w R, ρ.le R → Stands L R w → P w) (h : ∀ u, P u → Tri ρ L (f u) C) : Tri ρ L (Lg.wld f) C := fun w R hR hs => h w (hp w R hR hs) w R hR hs
theorem Tri.wldC {a : Addr} {l : List Value} {f : World → G β} (hc : Cells ρ L a l) (h : ∀ u, rdN u a 0 l.length = some l → Tri ρ L (f u) C) : Tri ρ L (Lg.wld f) C := Tri.wld (P := fun u => rdN u a 0 l.length = some l) hc h
theorem Tri.wld1 {a : Addr} {v : Value} {f : World → G β} (hc : Cell ρ L a v) (h : ∀ u, rdN u a 0 1 = some [v] → Tri ρ L (f u) C) : Tri ρ L (Lg.wld f) C := Tri.wldC hc.cells h
theorem Tri.agrC {a : Addr} {u : World} {l : List Value} {n : Nat} {f : G β} (hn : n = l.length) (hu : rdN u a 0 l.length = some l) (hc : Cells ρ L a l) (h : Tri ρ L f C) : Tri ρ L (Lg.agr (like a n u) f) C := fun w R hR hs => ⟨by subst hn; exact (hc w R hR hs).trans hu.symm, h w R hR hs⟩
theorem Tri.agr1 {a : Addr} {u : World} {v : Value} {f : G β} (hu : rdN u a 0 1 = some [v]) (hc : Cell ρ L a v) (h : Tri ρ L f C) : Tri ρ L (Lg.agr (like a 1 u) f) C := Tri.agrC (l := [v]) rfl hu hc.cells h
theorem Tri.wldS {s : Sl} {sz : Nat} {l : List Value} {f : World → G β} (hc : Rd ρ L s sz l) (h : ∀ u, rdSl u s sz = some l → Tri ρ L (f u) C) : Tri ρ L (Lg.wld f) C := Tri.wld (P := fun u => rdSl u s sz = some l) hc h
theorem Tri.agrS {s : Sl} {sz : Nat} {l : List Value} {u : World} {f : G β} (hu : rdSl u s sz = some l) (hc : Rd ρ L s sz l) (h : Tri ρ L f C) : Tri ρ L (Lg.agr (likeS s sz u) f) C := fun w R hR hs => ⟨(hc w R hR hs).trans hu.symm, h w R hR hs⟩
theorem Tri.strOf {s : Sl} {t : ByteArray} {f : ByteArray → G β} (hc : Rd ρ L s 1 (bytes t)) (h : Tri ρ L (f t) C) : Tri ρ L (Lg.strOf s f) C := fun w R hR hs => ⟨t, hc w R hR hs, h w R hR hs⟩

/-! ### 5. New blocks -/
theorem Stands.alloc {R : Hp} {w : World} (hs : Stands L R w) (cs : List Value) (e : TypeId) (lo hi : Nat) (hf : lo = hi ∨ cs.length ≤ lo) : Stands (pts w.heap.size cs :: L) R (w.alloc (.cells cs.toArray e (lo, hi))) := by
  obtain ⟨k, hl, d, i⟩ := hs
  have hn : ∀ b o, k b = some o ∨ R b = some o → b < w.heap.size := fun b o h => by
    have : w.heap[b]? = some o := by
      rcases h with h | h
      · exact i b o (by simp [Hp.or, h])
      · exact i.right d b o h
    exact (Array.getElem?_eq_some_iff.1 this).1
  have hd : ∀ h : Hp, (∀ b o, h b = some o → b < w.heap.size) → (Hp.one w.heap.size (Obj.cells cs.toArray e (lo, hi))).dis h := fun h hh b => by
    by_cases e1 : b = w.heap.size
    · right
      cases hb : h b with
      | none => rfl
      | some o => have := hh b o hb; omega
    · left; simp [Hp.one, e1]
  have d1 := hd k (fun b o h => hn b o (.inl h))
  have d2 := hd R (fun b o h => hn b o (.inr h))
  refine ⟨_, ⟨Hp.one w.heap.size _, k, d1, rfl, ⟨e, lo, hi, hf, rfl⟩, hl⟩, Hp.or_dis.2 ⟨d2, d⟩, ?_⟩
  rw [Hp.or_assoc]
  refine Hp.In.or ?_ ?_
  · intro b o h
    simp only [Hp.one] at h
    split at h
    · rename_i e1; subst e1
      simp only [Option.some.injEq] at h; subst h
      show (w.heap.push _)[w.heap.size]? = _
      simp
    · simp at h
  · intro b o h
    have h2 := i b o h
    rw [Go.RowKit.Below.heap_alloc _ _ _ (Array.getElem?_eq_some_iff.1 h2).1]; exact h2
theorem Ext.alloc (w : World) (o : Obj) : Ext w (w.alloc o) := ⟨rfl, rfl, rfl, by simp⟩
theorem Ext.drew (w : World) : Ext w w.drew := ⟨rfl, rfl, rfl, Nat.le_refl _⟩
theorem Tri.new {cs : List Value} {e : TypeId} {f : Addr → G β} (h : ∀ b, Tri ρ (pts b cs :: L) (f ⟨b, 0, none⟩) C) : Tri ρ L (Lg.new cs e f) C := fun w R hR hs =>
  (f _).mono (fun _ _ ⟨e1, k⟩ => ⟨(Ext.alloc w _).trans e1, k⟩) (h _ _ R hR (hs.alloc cs e 0 0 (.inl rfl)))

/-! ### 6. Writing -/
def splice {γ : Type} (cs : List γ) (i : Nat) (l : List γ) : List γ := cs.take i ++ l ++ cs.drop (i + l.length)
theorem splice_length {γ : Type} {cs l : List γ} {i : Nat} (h : i + l.length ≤ cs.length) : (splice cs i l).length = cs.length := by
  simp [splice]; omega
theorem Stands.setCell {R : Hp} {w : World} {b i : Nat} {cs : List Value} (hs : Stands (pts b cs :: L) R w) (v : Value) : Stands (pts b (cs.set i v) :: L) R (w.setCell ⟨b, i, none⟩ v) := by
  obtain ⟨k, ⟨h1, h2, d, rfl, ⟨e, lo, hi, hf, rfl⟩, hl⟩, d2, j⟩ := hs
  have hb : w.heap[b]? = some (Obj.cells cs.toArray e (lo, hi)) := j b _ (by simp [Hp.or, Hp.one])
  have dd : ∀ o o' (h : Hp), (Hp.one b o).dis h → (Hp.one b o').dis h := fun o o' h hd x => by
    by_cases e1 : x = b
    · rcases hd x with h3 | h3
      · simp [Hp.one, e1] at h3
      · exact .inr h3
    · exact .inl (by simp [Hp.one, e1])
  obtain ⟨d3, d4⟩ := Hp.or_dis.1 d2
  refine ⟨_, ⟨Hp.one b (.cells (cs.set i v).toArray e (lo, hi)), h2, dd _ _ _ d, rfl, ⟨e, lo, hi, by simpa using hf, rfl⟩, hl⟩, Hp.or_dis.2 ⟨dd _ _ _ d3, d4⟩, ?_⟩
  intro x o hx
  rw [Hp.or_assoc] at hx j
  by_cases e1 : x = b
  · subst e1
    simp only [Hp.or, Hp.one, if_true] at hx
    simp at hx; subst hx
    simp [World.setCell, Array.getElem?_modify, hb]
  · rw [Go.RowKit.Below.heap_setCell _ _ _ _ e1]
    refine j x o ?_
    simp only [Hp.or, Hp.one, e1, if_false] at hx ⊢
    exact hx
theorem frozen_of {w : World} {b i : Nat} {cs : List Value} {e : TypeId} {lo hi : Nat} (hb : w.heap[b]? = some (.cells cs.toArray e (lo, hi))) (hf : lo = hi ∨ cs.length ≤ lo) (hi' : i < cs.length) : w.frozen? ⟨b, i, none⟩ = false := by
  simp only [World.frozen?, hb]
  rcases hf with h | h
  · subst h
    by_cases h2 : lo ≤ i
    · simp [h2]
    · simp [h2]
  · have : ¬ lo ≤ i := by omega
    simp [this]
theorem Stands.stN {R : Hp} {b o : Nat} : ∀ {l : List Value} {i : Nat} {cs : List Value} {w : World}, Stands (pts b cs :: L) R w → o + i + l.length ≤ cs.length → l.all one = true →
    ∃ w1, stN ⟨b, o, none⟩ i l w = some w1 ∧ Ext w w1 ∧ Stands (pts b (splice cs (o + i) l) :: L) R w1
  | [], i, cs, w, hs, _, _ => ⟨w, rfl, Ext.refl w, by simpa [splice] using hs⟩
  | v :: l, i, cs, w, hs, hl, ho => by
    simp only [List.length_cons, List.all_cons, Bool.and_eq_true] at hl ho
    obtain ⟨e, lo, hi, hf, hb⟩ := hs.block
    have h1 : (w.cell? ⟨b, o + i, none⟩).isSome = true := by rw [cell_of_block hb, List.getElem?_eq_getElem (by omega)]; rfl
    have h2 := frozen_of hb hf (show o + i < cs.length by omega)
    obtain ⟨w1, h3, e1, h4⟩ := Stands.stN (o := o) (i := i + 1) (l := l) (hs.setCell (i := o + i) v) (by simp only [List.length_set]; omega) ho.2
    refine ⟨w1, ?_, ⟨e1.os, e1.tape, e1.output, by have := e1.size; simpa using this⟩, ?_⟩
    · simp only [Lg.stN, addr_add]
      rw [if_pos ⟨ho.1, h1, h2⟩]; exact h3
    · have e2 : splice (cs.set (o + i) v) (o + (i + 1)) l = splice cs (o + i) (v :: l) := by
        unfold splice
        have e3 : o + (i + 1) = o + i + 1 := by omega
        have h5 : (cs.set (o + i) v)[o + i]? = some v := by rw [List.getElem?_set_self (by omega)]
        rw [e3, List.take_add_one, List.take_set_of_le (by omega), h5, List.drop_set_of_lt (by omega)]
        simp [Nat.add_assoc, Nat.add_comm 1]
      rwa [e2] at h4
/-- a store into a block -/
theorem Tri.stB {b i : Nat} {cs l : List Value} {v : Value} {f : G β} (hv : v.cells.toList = l) (hl : i + l.length ≤ cs.length) (ho : l.all one = true) (h : Tri ρ (pts b (splice cs i l) :: L) f C) : Tri ρ (pts b cs :: L) (Lg.st ⟨b, i, none⟩ v f) C := fun w R hR hs => by
  obtain ⟨w1, h1, e1, h2⟩ := hs.stN (i := 0) (l := l) (o := i) (by omega) ho
  exact ⟨w1, by rw [hv]; exact h1, f.mono (fun _ _ ⟨e2, k⟩ => ⟨e1.trans e2, k⟩) (h w1 R hR h2)⟩
end Go.Lg

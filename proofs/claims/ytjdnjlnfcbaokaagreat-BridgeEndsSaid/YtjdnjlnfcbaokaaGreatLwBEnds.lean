/-
  LAW BridgeEnds, over its spec. Own work.
-/
import Derived.Test.YtjdnjlnfcbaokaaGreatLwBr
set_option linter.unusedVariables false
set_option linter.unusedSimpArgs false
set_option maxRecDepth 20000
namespace Go.Proofs.YtjdnjlnfcbaokaaGreat
open Go Go.Lg
variable {α β σ τ : Type} {ρ : Hp} {L M : As} {K : Nat}

/-! ### what stays of the times -/
structure Stay (x y : Bm) : Prop where
  heard : ∀ j, (y.get j).heard = (x.get j).heard
  asked : ∀ j, (y.get j).asked = (x.get j).asked
  ending : ∀ j, (y.get j).ending = (x.get j).ending
  lost : ∀ j, (y.get j).lost = (x.get j).lost
theorem Stay.refl (x : Bm) : Stay x x := ⟨fun _ => rfl, fun _ => rfl, fun _ => rfl, fun _ => rfl⟩
theorem Stay.trans {x y z : Bm} (h : Stay x y) (g : Stay y z) : Stay x z :=
  ⟨fun j => (g.heard j).trans (h.heard j), fun j => (g.asked j).trans (h.asked j), fun j => (g.ending j).trans (h.ending j), fun j => (g.lost j).trans (h.lost j)⟩
theorem end__times (s : Sd) (c : Int) : (s.end_ c).heard = s.heard ∧ (s.end_ c).asked = s.asked ∧ (s.end_ c).ending = s.ending ∧ (s.end_ c).lost = s.lost := by unfold Sd.end_; split <;> exact ⟨rfl, rfl, rfl, rfl⟩
theorem stay_end (x : Bm) (i : Bool) (n : Int) : Stay x (x.set i ((x.get i).end_ n)) := by
  obtain ⟨h1, h2, h3, h4⟩ := end__times (x.get i) n
  cases i <;> exact ⟨fun j => by cases j <;> first | rfl | exact h1, fun j => by cases j <;> first | rfl | exact h2, fun j => by cases j <;> first | rfl | exact h3, fun j => by cases j <;> first | rfl | exact h4⟩
theorem stay_settle1 (x : Bm) (i : Bool) : Stay x (x.settle1 i) := by
  unfold Bm.settle1
  split <;> cases i <;> exact ⟨fun j => by cases j <;> rfl, fun j => by cases j <;> rfl, fun j => by cases j <;> rfl, fun j => by cases j <;> rfl⟩
theorem stay_settle (x : Bm) : Stay x x.settle := (stay_settle1 x false).trans (stay_settle1 _ true)
theorem stay_leg (x : Bm) (i : Bool) (y : Lm) : Stay x (x.set i { x.get i with leg := y }) := by
  cases i <;> exact ⟨fun j => by cases j <;> rfl, fun j => by cases j <;> rfl, fun j => by cases j <;> rfl, fun j => by cases j <;> rfl⟩
theorem stay_q (x : Bm) (i : Bool) (y : Qm) : Stay x (x.set i { x.get i with q := y }) := by
  cases i <;> exact ⟨fun j => by cases j <;> rfl, fun j => by cases j <;> rfl, fun j => by cases j <;> rfl, fun j => by cases j <;> rfl⟩
theorem stay_out (x : Bm) (i : Bool) (n : Int) : Stay x (x.out' i n) := by
  unfold Bm.out'
  split
  · exact Stay.refl x
  · exact (stay_leg x i _).trans (stay_settle _)
theorem stay_put1 (x : Bm) (i : Bool) (e : Ev) : Stay x (x.put1 i e) := by
  unfold Bm.put1
  split
  · exact stay_q x i _
  · split
    · exact stay_end x (!i) _
    · exact Stay.refl x
theorem stay_puts (i : Bool) : ∀ (es : List Ev) (x : Bm), Stay x (es.foldl (fun y e => y.put1 i e) x)
  | [], x => Stay.refl x
  | e :: es, x => (stay_put1 x i e).trans (stay_puts i es _)
/-- the times: as they were, or none -/
structure Tm (x y : Bm) : Prop where
  heard : ∀ j, (y.get j).heard = (x.get j).heard ∨ (y.get j).heard = 0
  ending : ∀ j, (y.get j).ending = (x.get j).ending
theorem Stay.tm {x y : Bm} (h : Stay x y) : Tm x y := ⟨fun j => .inl (h.heard j), h.ending⟩
theorem Tm.trans {x y z : Bm} (h : Tm x y) (g : Tm y z) : Tm x z :=
  ⟨fun j => by rcases g.heard j with e | e
               · rw [e]; exact h.heard j
               · exact .inr e, fun j => (g.ending j).trans (h.ending j)⟩
theorem tm_hear1 (x : Bm) (i : Bool) (b : UInt8) : Tm x (x.hear1 i b) := by
  unfold Bm.hear1
  cases i <;> exact ⟨fun j => by cases j <;> first | exact .inl rfl | exact .inr rfl, fun j => by cases j <;> rfl⟩
theorem tm_hear (x : Bm) (i : Bool) (b : UInt8) : Tm x (x.hear i b) := by
  unfold Bm.hear
  refine Tm.trans ?_ (stay_settle _).tm
  have h2 : Tm x (x.hear2 i b) := (tm_hear1 x i b).trans (stay_puts i _ _).tm
  split
  · exact h2.trans (stay_end _ (!i) _).tm
  · exact h2
theorem tm_feedB {i : Bool} {m : Nat} : ∀ (s : List UInt8) (x : Bm), Tm x (x.feedB i m s).1
  | [], x => (Stay.refl x).tm
  | b :: r, x => by
    rw [feedB_cons]
    split
    · exact (Stay.refl x).tm
    · exact (tm_hear x i b).trans (tm_feedB r _)
theorem lose0_times (x : Bm) (i j : Bool) : ((x.lose0 i).get j).heard = (x.get j).heard ∧ ((x.lose0 i).get j).asked = (x.get j).asked ∧ ((x.lose0 i).get j).ending = (x.get j).ending := by
  unfold Bm.lose0
  cases i <;> cases j <;> first | exact ⟨rfl, rfl, rfl⟩ | exact ⟨(end__times _ _).1, (end__times _ _).2.1, (end__times _ _).2.2.1⟩
theorem lose0_lost2 (x : Bm) (i : Bool) : ((x.lose0 i).get i).lost = true ∧ ((x.lose0 i).get (!i)).lost = (x.get (!i)).lost := by
  unfold Bm.lose0
  cases i <;> exact ⟨rfl, (end__times _ _).2.2.2⟩
theorem tm_lose (x : Bm) (i : Bool) : Tm x (x.lose i) :=
  Tm.trans ⟨fun j => .inl (lose0_times x i j).1, fun j => (lose0_times x i j).2.2⟩ (stay_settle _).tm
/-- times that are sane -/
def Sane (x : Bm) (B : Int) : Prop := ∀ j, 0 ≤ (x.get j).heard ∧ (x.get j).heard ≤ B ∧ 0 ≤ (x.get j).ending ∧ (x.get j).ending ≤ B
theorem Sane.weak {x : Bm} {B C : Int} (h : Sane x B) (hc : B ≤ C) : Sane x C := fun j => by have := h j; omega
theorem Sane.tm {x y : Bm} {B : Int} (h : Sane x B) (g : Tm x y) (hB : 0 ≤ B) : Sane y B := fun j => by
  have := h j
  have e := g.ending j
  rcases g.heard j with e2 | e2 <;> omega
theorem bnot_of {i j : Bool} (h : ¬ j = i) : j = !i := by cases i <;> cases j <;> simp_all
theorem wr_id {a n B : Int} (h : 0 ≤ a ∧ a ≤ B) (hn : 0 ≤ n ∧ n ≤ 1073741824) (hB : B ≤ 1152921504606846976) : wr (a + n) = a + n := by unfold wr; exact w64 (by omega) (by omega)
theorem sane_set {x : Bm} {B C : Int} (h : Sane x B) (hBC : B ≤ C) {i : Bool} {s : Sd} (h1 : 0 ≤ s.heard ∧ s.heard ≤ C) (h2 : 0 ≤ s.ending ∧ s.ending ≤ C) : Sane (x.set i s) C := fun j => by
  by_cases e : j = i
  · subst e; rw [get_set]; exact ⟨h1.1, h1.2, h2.1, h2.2⟩
  · rw [bnot_of e, get_set']; have := h (!i); omega
theorem sane_tick0 {x : Bm} {B n : Int} (h : Sane x B) (hB0 : 0 ≤ B) (hB : B ≤ 1152921504606846976) (hn : 0 ≤ n ∧ n ≤ 1073741824) (i : Bool) (c : Tapi_Config) : Sane (x.tick0 i c n) (B + 1073741824) := by
  have hi := h i
  have w1 : wr ((x.get i).ending + n) = (x.get i).ending + n := wr_id ⟨hi.2.2.1, hi.2.2.2⟩ hn hB
  have w2 : wr ((x.get i).heard + n) = (x.get i).heard + n := wr_id ⟨hi.1, hi.2.1⟩ hn hB
  unfold Bm.tick0
  rw [w1, w2]
  split
  · exact sane_set h (by omega) (by dsimp only; omega) (by dsimp only; omega)
  · have h3 : Sane (x.set i { x.get i with heard := (x.get i).heard + n }) (B + 1073741824) := sane_set h (by omega) (by dsimp only; omega) (by dsimp only; omega)
    split
    · exact h3.tm ⟨fun j => .inl (lose0_times _ i j).1, fun j => (lose0_times _ i j).2.2⟩ (by omega)
    · split
      · exact sane_set h (by omega) (by dsimp only; omega) (by dsimp only; omega)
      · exact h3
theorem clamp_le (n : Int) : 0 ≤ clampN n ∧ clampN n ≤ 1073741824 := by
  unfold clampN
  split <;> split <;> omega
theorem sane_tick1 {x : Bm} {B : Int} (h : Sane x B) (hB0 : 0 ≤ B) (hB : B ≤ 1152921504606846976) (i : Bool) (c : Tapi_Config) (n : Int) : Sane (x.tick1 i c n) (B + 1073741824) := by
  unfold Bm.tick1
  split
  · exact h.weak (by omega)
  · exact sane_tick0 h hB0 hB (clamp_le n) i c
theorem tick0_other (x : Bm) (i : Bool) (c : Tapi_Config) (n : Int) : ((x.tick0 i c n).get (!i)).heard = (x.get (!i)).heard ∧ ((x.tick0 i c n).get (!i)).asked = (x.get (!i)).asked ∧ ((x.tick0 i c n).get (!i)).ending = (x.get (!i)).ending ∧ ((x.tick0 i c n).get (!i)).lost = (x.get (!i)).lost := by
  unfold Bm.tick0
  split
  · rw [get_set']; exact ⟨rfl, rfl, rfl, rfl⟩
  · split
    · obtain ⟨a1, a2, a3⟩ := lose0_times (x.set i { x.get i with heard := wr ((x.get i).heard + n) }) i (!i)
      have a4 := (lose0_lost2 (x.set i { x.get i with heard := wr ((x.get i).heard + n) }) i).2
      rw [get_set'] at a1 a2 a3 a4
      exact ⟨a1, a2, a3, a4⟩
    · split <;> (rw [get_set']; exact ⟨rfl, rfl, rfl, rfl⟩)
theorem tick1_other (x : Bm) (i : Bool) (c : Tapi_Config) (n : Int) : ((x.tick1 i c n).get (!i)).heard = (x.get (!i)).heard ∧ ((x.tick1 i c n).get (!i)).asked = (x.get (!i)).asked ∧ ((x.tick1 i c n).get (!i)).ending = (x.get (!i)).ending ∧ ((x.tick1 i c n).get (!i)).lost = (x.get (!i)).lost := by
  unfold Bm.tick1
  split
  · exact ⟨rfl, rfl, rfl, rfl⟩
  · exact tick0_other x i c _
theorem sane_tick {x : Bm} {B : Int} (h : Sane x B) (hB0 : 0 ≤ B) (hB : B ≤ 1000000000000000000) (c : Tapi_Config) (n : Int) : Sane (x.tick c n) (B + 1073741824) := by
  refine Sane.tm ?_ (stay_settle _).tm (by omega)
  have h1 := sane_tick1 h hB0 (by omega) false c n
  have h2 := sane_tick1 h1 (by omega) (by omega) true c n
  obtain ⟨o1, o2, o3, o4⟩ := tick1_other (x.tick1 false c n) true c n
  obtain ⟨p1, p2, p3, p4⟩ := tick1_other x false c n
  have k1 := h1 false
  have hx := h true
  -- the second one's part: from the first tick it is as it was
  have h1t : Sane (x.tick1 false c n) (B + 1073741824) := h1
  have hb : 0 ≤ (((x.tick1 false c n).tick1 true c n).get true).heard ∧ (((x.tick1 false c n).tick1 true c n).get true).heard ≤ B + 1073741824 ∧ 0 ≤ (((x.tick1 false c n).tick1 true c n).get true).ending ∧ (((x.tick1 false c n).tick1 true c n).get true).ending ≤ B + 1073741824 := by
    have p1' : ((x.tick1 false c n).get true).heard = (x.get true).heard := p1
    have p3' : ((x.tick1 false c n).get true).ending = (x.get true).ending := p3
    have s0 : Sane ((x.tick1 false c n).set false (x.get true)) B := fun j => by
      cases j with
      | false => exact hx
      | true =>
        show 0 ≤ ((x.tick1 false c n).get true).heard ∧ ((x.tick1 false c n).get true).heard ≤ B ∧ 0 ≤ ((x.tick1 false c n).get true).ending ∧ ((x.tick1 false c n).get true).ending ≤ B
        rw [p1', p3']; exact hx
    generalize x.tick1 false c n = y at *
    unfold Bm.tick1
    split
    · have := s0 true
      have e : ((y.set false (x.get true)).get true) = y.get true := rfl
      rw [e] at this
      omega
    · have hi : 0 ≤ (y.get true).heard ∧ (y.get true).heard ≤ B ∧ 0 ≤ (y.get true).ending ∧ (y.get true).ending ≤ B := s0 true
      have cl := clamp_le n
      generalize clampN n = n' at cl ⊢
      have w1 : wr ((y.get true).ending + n') = (y.get true).ending + n' := wr_id ⟨hi.2.2.1, hi.2.2.2⟩ cl (by omega)
      have w2 : wr ((y.get true).heard + n') = (y.get true).heard + n' := wr_id ⟨hi.1, hi.2.1⟩ cl (by omega)
      unfold Bm.tick0
      rw [w1, w2]
      split
      · rw [get_set]; dsimp only; omega
      · split
        · obtain ⟨a1, _, a3⟩ := lose0_times (y.set true { y.get true with heard := (y.get true).heard + n' }) true true
          rw [a1, a3, get_set]; dsimp only; omega
        · split <;> (rw [get_set]; dsimp only; omega)
  intro j
  cases j with
  | false =>
    have o1' : (((x.tick1 false c n).tick1 true c n).get false).heard = ((x.tick1 false c n).get false).heard := o1
    have o3' : (((x.tick1 false c n).tick1 true c n).get false).ending = ((x.tick1 false c n).get false).ending := o3
    rw [o1', o3']; exact k1
  | true => exact hb
theorem sane_act {x : Bm} {B : Int} (h : Sane x B) (hB0 : 0 ≤ B) (hB : B ≤ 1000000000000000000) (c : Tapi_Config) (m : Nat) (k side n : Int) (s : List UInt8) : Sane (x.act c m k side n s) (B + 1073741824) := by
  unfold Bm.act
  split
  · split
    · exact (h.tm (tm_feedB s x) hB0).weak (by omega)
    · exact h.weak (by omega)
  · split
    · split
      · exact (h.tm (stay_out x _ n).tm hB0).weak (by omega)
      · exact h.weak (by omega)
    · split
      · exact sane_tick h hB0 hB c n
      · split
        · split
          · exact (h.tm (tm_lose x _) hB0).weak (by omega)
          · exact h.weak (by omega)
        · exact h.weak (by omega)
/-! ### a great tick -/
theorem tick0_gone {x : Bm} {B : Int} (h : Sane x B) (hB : B ≤ 1000000000000000000) (i : Bool) {c : Tapi_Config} (hI : c.Idle = 9) (hP : c.Pong = 3) (hC : c.Close = 4) :
    (((x.tick0 i c 17).get i).lost = true ∨ ((x.tick0 i c 17).get i).asked = true) ∧ ((x.get i).asked = true → ((x.tick0 i c 17).get i).lost = true) := by
  have hi := h i
  have w1 : wr ((x.get i).ending + 17) = (x.get i).ending + 17 := wr_id ⟨hi.2.2.1, hi.2.2.2⟩ (by omega) (by omega)
  have w2 : wr ((x.get i).heard + 17) = (x.get i).heard + 17 := wr_id ⟨hi.1, hi.2.1⟩ (by omega) (by omega)
  unfold Bm.tick0
  rw [w1, w2, hI, hP, hC]
  split
  · rw [get_set]
    have : decide ((4 : Int) < (x.get i).ending + 17) = true := by simp; omega
    dsimp only
    rw [this]
    exact ⟨.inl rfl, fun _ => rfl⟩
  · split
    · exact ⟨.inl (lose0_lost2 _ i).1, fun _ => (lose0_lost2 _ i).1⟩
    · rename_i hna
      have ha : (x.get i).asked = false := by
        cases e : (x.get i).asked with
        | false => rfl
        | true => exact absurd ⟨e, by omega⟩ hna
      rw [if_pos ⟨ha, by omega⟩, get_set, ha]
      exact ⟨.inr rfl, fun e => by simp at e⟩
theorem tick1_gone {x : Bm} {B : Int} (h : Sane x B) (hB : B ≤ 1000000000000000000) (i : Bool) {c : Tapi_Config} (hI : c.Idle = 9) (hP : c.Pong = 3) (hC : c.Close = 4) :
    (((x.tick1 i c 17).get i).lost = true ∨ ((x.tick1 i c 17).get i).asked = true) ∧ ((x.get i).lost = true ∨ (x.get i).asked = true → ((x.tick1 i c 17).get i).lost = true) := by
  have e17 : clampN 17 = 17 := by decide
  unfold Bm.tick1
  split
  · rename_i hl
    exact ⟨.inl hl, fun _ => hl⟩
  · rename_i hl
    rw [e17]
    obtain ⟨q1, q2⟩ := tick0_gone h hB i hI hP hC
    exact ⟨q1, fun e => by rcases e with e | e
                           · exact absurd e hl
                           · exact q2 e⟩
theorem tick_gone {x : Bm} {B : Int} (h : Sane x B) (hB0 : 0 ≤ B) (hB : B ≤ 900000000000000000) {c : Tapi_Config} (hI : c.Idle = 9) (hP : c.Pong = 3) (hC : c.Close = 4) :
    (∀ j, ((x.tick c 17).get j).lost = true ∨ ((x.tick c 17).get j).asked = true) ∧ ((∀ j, (x.get j).lost = true ∨ (x.get j).asked = true) → ∀ j, ((x.tick c 17).get j).lost = true) := by
  have h1 := sane_tick1 h hB0 (by omega) false c 17
  obtain ⟨a1, a2⟩ := tick1_gone h (by omega) false hI hP hC
  obtain ⟨b1, b2⟩ := tick1_gone h1 (by omega) true hI hP hC
  obtain ⟨-, o2, -, o4⟩ := tick1_other (x.tick1 false c 17) true c 17
  obtain ⟨-, p2, -, p4⟩ := tick1_other x false c 17
  have st := stay_settle ((x.tick1 false c 17).tick1 true c 17)
  have e : x.tick c 17 = ((x.tick1 false c 17).tick1 true c 17).settle := rfl
  rw [e]
  have o2' : (((x.tick1 false c 17).tick1 true c 17).get false).asked = ((x.tick1 false c 17).get false).asked := o2
  have o4' : (((x.tick1 false c 17).tick1 true c 17).get false).lost = ((x.tick1 false c 17).get false).lost := o4
  have p2' : ((x.tick1 false c 17).get true).asked = (x.get true).asked := p2
  have p4' : ((x.tick1 false c 17).get true).lost = (x.get true).lost := p4
  refine ⟨fun j => ?_, fun hp j => ?_⟩
  · rw [st.lost, st.asked]
    cases j with
    | false => rw [o2', o4']; exact a1
    | true => exact b1
  · rw [st.lost]
    cases j with
    | false => rw [o4']; exact a2 (hp false)
    | true => exact b2 (by rw [p2', p4']; exact hp true)
theorem acts20_ends {p m : Nat} {c : Tapi_Config} {x0 : Bm} {sl : Sl} {acts : List Tref17_Act} (hK : KBig K) (hm : c.Message = (m : Int)) (hok : x0.Ok) (hf : x0.Fit) (hs0 : Sane x0 0) (h90 : ∀ i, cnt 9 (x0.get i).leg.ctl = 0)
    (hr : ∀ {L' : As}, Rd ρ L' sl 4 (ac7l acts)) (hl : sl.n = acts.length) (hw : ∀ t ∈ acts, act17Ok t) :
    Tri ρ (brI p c x0 :: L) (loopG (law17_BridgeEnds_l0 K sl (some ⟨p, 0, none⟩, 0)) K 0) (fun _ L' => ∃ z : Bm, z.Ok ∧ z.Fit ∧ Keeps x0 z 40 ∧ Sane z 21474836480 ∧ L' = brI p c z :: L) := by
  refine Tri.loop (μ := fun (i : Int) => 41 - i.toNat) (I := fun (i : Int) L' => ∃ (j : Nat) (x : Bm), i = j ∧ j ≤ 20 ∧ x.Ok ∧ x.Fit ∧ Keeps x0 x (2 * j) ∧ Sane x (j * 1073741824) ∧ L' = brI p c x :: L) ?_ (by unfold KBig at hK; simp; omega)
    ⟨0, x0, rfl, by omega, hok, hf, Keeps.refl x0, by simpa using hs0, rfl⟩
  rintro again i L' ⟨j, x, rfl, hj, hok, hfit, hkp, hsa, rfl⟩ ih
  unfold law17_BridgeEnds_l0
  refine Tri.val (decide (j < acts.length ∧ j < 20)) ?_ ?_
  · rw [hl]
    by_cases c1 : j < acts.length
    · have d1 : decide ((j : Int) < (acts.length : Int)) = true := by simp; omega
      rw [d1]
      simp only [if_true]
      exact Tri.ret ⟨by rw [Bool.eq_iff_iff]; simp only [decide_eq_true_eq]; omega, rfl⟩
    · have d1 : decide ((j : Int) < (acts.length : Int)) = false := by simp; omega
      rw [d1]
      simp only [Bool.false_eq_true, if_false]
      exact Tri.ret ⟨by rw [eq_comm, decide_eq_false]; omega, rfl⟩
  by_cases hc : j < acts.length ∧ j < 20
  · rw [decide_eq_true hc]
    simp only [if_true]
    obtain ⟨c1, c2⟩ := hc
    have hw1 : IntKind.wrap .i64 ((j : Int) + 1) = ((j + 1 : Nat) : Int) := by rw [w64 (by omega) (by omega)]; omega
    have hr' : Rd ρ (brI p c x :: L) sl 4 (ac7l acts) := hr
    refine Tri.ixA j hr' rfl (by omega) (by intro e; have e9 := congrArg List.length e; rw [ac7l_length, List.length_nil] at e9; omega) fun x290 h290 => ?_
    refine Tri.ldG acts[j] rfl (h290.cells hr' (by omega) (ac7l_get acts j c1) rfl) ?_
    refine Tri.new fun x292 => ?_
    refine Tri.stB (l := Agg.cells acts[j]) (by rfl) (by simp [Agg.cells]) rfl ?_
    have es2 : ∀ cs : List Value, cs.length = 4 → splice cs 0 (Agg.cells acts[j]) = Agg.cells acts[j] := by
      intro cs hc
      unfold splice
      rw [List.take_zero, List.nil_append, List.drop_eq_nil_of_le (by rw [hc]; simp [Agg.cells]), List.append_nil]
    rw [es2 _ rfl]
    refine Tri.ldG acts[j] rfl (Cells.here (i := 0) (by simp [Agg.cells]) rfl) ?_
    refine Tri.bnd few17_spec ?_
    rintro _ _ ⟨rfl, rfl⟩
    have hact := hw acts[j] (List.getElem_mem c1)
    generalize acts[j] = t at hact ⊢
    have h9 : ∀ i, cnt 9 (x.get i).leg.ctl < 549755813888 := fun i => by have := hkp.c9 i; rw [h90] at this; omega
    refine Tri.bnd (B := fun _ L' => ∃ z : Bm, z.Ok ∧ z.Fit ∧ Keeps x0 z (2 * (j + 1)) ∧ Sane z ((j + 1 : Nat) * 1073741824) ∧ L' = brI p c z :: L) ?_ ?_
    · by_cases hfew : t.S.size ≤ 300
      · rw [decide_eq_true hfew]
        simp only [if_true]
        refine Tri.ldG t rfl (Cells.here (i := 0) (by simp [Agg.cells]) rfl) (Tri.drop ?_)
        refine Tri.bnd (play17_spec hK hm hok hfit h9 hact hfew) ?_
        rintro _ _ rfl
        obtain ⟨q1, q2⟩ := bact_ok hok hfit c m h9 t.Kind t.Side t.N t.S.data.toList
        exact Tri.ret ⟨_, q1, q2, hkp.trans (keeps_act x c m _ _ _ _) (by omega), (sane_act hsa (by omega) (by omega) c m _ _ _ _).weak (by omega), rfl⟩
      · rw [decide_eq_false hfew]
        simp only [Bool.false_eq_true, if_false]
        exact Tri.drop (Tri.ret ⟨x, hok, hfit, hkp.weak (by omega), hsa.weak (by omega), rfl⟩)
    · rintro _ _ ⟨z, z1, z2, zk, zs, rfl⟩
      refine Tri.lt ?_
      rw [hw1]
      exact ih _ _ ⟨j + 1, z, rfl, by omega, z1, z2, zk, zs, rfl⟩ (by simp; omega)
  · rw [decide_eq_false hc]
    simp only [Bool.false_eq_true, if_false]
    exact Tri.ret ⟨x, hok, hfit, hkp.weak (by omega), hsa.weak (by omega), rfl⟩
theorem takes_ends {p : Nat} {c : Tapi_Config} {x : Bm} {i : Bool} (hK : KBig K) (hok : x.Ok) (hf : x.Fit) : Tri ρ (brI p c x :: L) (loopG (law17_BridgeEnds_l1 K (some ⟨p, 0, none⟩, 0) (ix i)) K 0) (fun _ L' => ∃ z : Bm, z.Ok ∧ z.Fit ∧ Keeps x z 0 ∧ Stay x z ∧ L' = brI p c z :: L) := by
  refine Tri.loop (μ := fun (i : Int) => 2001 - i.toNat) (I := fun (i : Int) L' => ∃ (j : Nat) (z : Bm), i = j ∧ j ≤ 2000 ∧ z.Ok ∧ z.Fit ∧ Keeps x z 0 ∧ Stay x z ∧ L' = brI p c z :: L) ?_ (by unfold KBig at hK; simp; omega)
    ⟨0, x, rfl, by omega, hok, hf, Keeps.refl x, Stay.refl x, rfl⟩
  rintro again _ L' ⟨j, z, rfl, hj, z1, z2, zk, zs, rfl⟩ ih
  unfold law17_BridgeEnds_l1
  by_cases hc : j < 2000
  · have d1 : decide ((j : Int) < 2000) = true := by simp; omega
    have hw1 : IntKind.wrap .i64 ((j : Int) + 1) = ((j + 1 : Nat) : Int) := by rw [w64 (by omega) (by omega)]; omega
    rw [d1]
    simp only [if_true, bnd_ret, bnd_bnd, bnd_ite, bnd_lt, bnd_ldB, bnd_ldI, bnd_ldS, bnd_ldP, bnd_ldSl, bnd_ldG, bnd_nn, bnd_ixA, bnd_st, bnd_drw, bnd_strOf, bnd_new, bnd_slS, bnd_slA, bnd_slStr, bnd_app, bnd_appS, bnd_appT, bnd_appZ, bnd_chk, bnd_mk, bnd_cpy, bnd_wld, bnd_agr, bnd_bytesOf, bnd_drw2, bnd_mrk, bnd_fail, sumK_inl, sumK_inr, bnd_inr]
    refine Tri.bnd (brPeek_spec (by omega)) ?_
    rintro r _ ⟨hr, rfl⟩
    refine Tri.drop ?_
    by_cases hp : (0 : Int) < (r.n : Int)
    · rw [decide_eq_true hp]
      simp only [if_true]
      refine Tri.bnd (brTake_spec hK z1 z2 (by omega)) ?_
      rintro r2 _ ⟨hr2, rfl⟩
      refine Tri.drop (Tri.lt ?_)
      rw [hw1]
      obtain ⟨q1, q2⟩ := out_br_ok z1 z2 i 1000
      exact ih _ _ ⟨j + 1, _, rfl, by omega, q1, q2, zk.trans0 (keeps_out z i 1000), zs.trans (stay_out z i 1000), rfl⟩ (by simp; omega)
    · rw [decide_eq_false hp]
      simp only [Bool.false_eq_true, if_false]
      exact Tri.ret ⟨z, z1, z2, zk, zs, rfl⟩
  · have d1 : decide ((j : Int) < 2000) = false := by simp; omega
    rw [d1]
    simp only [Bool.false_eq_true, if_false, bnd_ret]
    exact Tri.ret ⟨z, z1, z2, zk, zs, rfl⟩
theorem sides_ends {p : Nat} {c : Tapi_Config} {x : Bm} (hK : KBig K) (hok : x.Ok) (hf : x.Fit) : Tri ρ (brI p c x :: L) (loopG (law17_BridgeEnds_l2 K (some ⟨p, 0, none⟩, 0)) K 0) (fun _ L' => ∃ z : Bm, z.Ok ∧ z.Fit ∧ Keeps x z 0 ∧ Stay x z ∧ L' = brI p c z :: L) := by
  refine Tri.loop (μ := fun (i : Int) => 3 - i.toNat) (I := fun (i : Int) L' => ∃ (j : Nat) (z : Bm), i = j ∧ j ≤ 2 ∧ z.Ok ∧ z.Fit ∧ Keeps x z 0 ∧ Stay x z ∧ L' = brI p c z :: L) ?_ (by unfold KBig at hK; simp; omega)
    ⟨0, x, rfl, by omega, hok, hf, Keeps.refl x, Stay.refl x, rfl⟩
  rintro again _ L' ⟨j, z, rfl, hj, z1, z2, zk, zs, rfl⟩ ih
  unfold law17_BridgeEnds_l2
  by_cases hc : j < 2
  · have d1 : decide ((j : Int) < 2) = true := by simp; omega
    have hw1 : IntKind.wrap .i64 ((j : Int) + 1) = ((j + 1 : Nat) : Int) := by rw [w64 (by omega) (by omega)]; omega
    rw [d1, hw1]
    simp only [if_true]
    obtain ⟨i, hi⟩ : ∃ i : Bool, (j : Int) = ix i := by
      match j, hc with
      | 0, _ => exact ⟨false, rfl⟩
      | 1, _ => exact ⟨true, rfl⟩
    rw [hi]
    refine Tri.bnd (takes_ends hK z1 z2) ?_
    rintro _ _ ⟨y, y1, y2, yk, ys, rfl⟩
    refine Tri.lt ?_
    exact ih _ _ ⟨j + 1, y, rfl, by omega, y1, y2, zk.trans0 yk, zs.trans ys, rfl⟩ (by simp; omega)
  · have d1 : decide ((j : Int) < 2) = false := by simp; omega
    rw [d1]
    simp only [Bool.false_eq_true, if_false]
    exact Tri.ret ⟨z, z1, z2, zk, zs, rfl⟩
theorem over_of_lost {x : Bm} (h : ∀ j, (x.get j).lost = true) : ((x.get false).over && (x.get true).over) = true := by
  unfold Sd.over
  rw [h false, h true]; rfl
theorem rounds_ends {p b x4 : Nat} {c : Tapi_Config} {x : Bm} (hK : KBig K) (hI : c.Idle = 9) (hP : c.Pong = 3) (hC : c.Close = 4) (hok : x.Ok) (hf : x.Fit) (h9 : ∀ i, cnt 9 (x.get i).leg.ctl ≤ 40) (hs : Sane x 21474836480) :
    Tri ρ [brI p c x, pts b rtC, pts x4 (Agg.cells c)] (loopG (law17_BridgeEnds_l3 K (some ⟨p, 0, none⟩, 0) ⟨x4, 0, none⟩) K 0) (fun _ L' => ∃ z : Bm, ((z.get false).over && (z.get true).over) = true ∧ L' = [brI p c z, pts b rtC, pts x4 (Agg.cells c)]) := by
  refine Tri.loop (μ := fun (i : Int) => 11 - i.toNat) (I := fun (i : Int) L' => ∃ (j : Nat) (z : Bm), i = j ∧ j ≤ 10 ∧ z.Ok ∧ z.Fit ∧ Keeps x z (2 * j) ∧ Sane z (21474836480 + j * 1073741824) ∧ (1 ≤ j → ∀ i, (z.get i).lost = true ∨ (z.get i).asked = true) ∧ (2 ≤ j → ∀ i, (z.get i).lost = true) ∧ L' = [brI p c z, pts b rtC, pts x4 (Agg.cells c)]) ?_ (by unfold KBig at hK; simp; omega)
    ⟨0, x, rfl, by omega, hok, hf, Keeps.refl x, by simpa using hs, by omega, by omega, rfl⟩
  rintro again _ L' ⟨j, z, rfl, hj, z1, z2, zk, zs, za, zl, rfl⟩ ih
  unfold law17_BridgeEnds_l3
  by_cases hc : j < 10
  · have d1 : decide ((j : Int) < 10) = true := by simp; omega
    have hw1 : IntKind.wrap .i64 ((j : Int) + 1) = ((j + 1 : Nat) : Int) := by rw [w64 (by omega) (by omega)]; omega
    rw [d1]
    simp only [if_true, bnd_ret, bnd_bnd, bnd_ite, bnd_lt, bnd_ldB, bnd_ldI, bnd_ldS, bnd_ldP, bnd_ldSl, bnd_ldG, bnd_nn, bnd_ixA, bnd_st, bnd_drw, bnd_strOf, bnd_new, bnd_slS, bnd_slA, bnd_slStr, bnd_app, bnd_appS, bnd_appT, bnd_appZ, bnd_chk, bnd_mk, bnd_cpy, bnd_wld, bnd_agr, bnd_bytesOf, bnd_drw2, bnd_mrk, bnd_fail, sumK_inl, sumK_inr, bnd_inr]
    refine Tri.bnd brOver_spec ?_
    rintro _ _ ⟨rfl, rfl⟩
    cases ho : ((z.get false).over && (z.get true).over) with
    | true =>
      simp only [Bool.not_true, Bool.false_eq_true, if_false]
      exact Tri.ret ⟨z, ho, rfl⟩
    | false =>
      simp only [Bool.not_false, if_true, bnd_ret, bnd_bnd, bnd_ite, bnd_lt, bnd_ldB, bnd_ldI, bnd_ldS, bnd_ldP, bnd_ldSl, bnd_ldG, bnd_nn, bnd_ixA, bnd_st, bnd_drw, bnd_strOf, bnd_new, bnd_slS, bnd_slA, bnd_slStr, bnd_app, bnd_appS, bnd_appT, bnd_appZ, bnd_chk, bnd_mk, bnd_cpy, bnd_wld, bnd_agr, bnd_bytesOf, bnd_drw2, bnd_mrk, bnd_fail, sumK_inl, sumK_inr, bnd_inr]
      have hj2 : j < 2 := by
        rcases Nat.lt_or_ge j 2 with h | h
        · exact h
        · rw [over_of_lost (zl h)] at ho; exact absurd ho (by simp)
      refine Tri.bnd (sides_ends hK z1 z2) ?_
      rintro _ _ ⟨y, y1, y2, yk, ys, rfl⟩
      have a9 : (⟨x4, 0, none⟩ : Addr).add 9 = ⟨x4, 9, none⟩ := rfl
      have a10 : (⟨x4, 0, none⟩ : Addr).add 10 = ⟨x4, 10, none⟩ := rfl
      have a11 : (⟨x4, 0, none⟩ : Addr).add 11 = ⟨x4, 11, none⟩ := rfl
      rw [a9, a10, a11]
      refine Tri.ldI (v := c.Idle) (Cell.here (i := 9) rfl).tail.tail ?_
      refine Tri.ldI (v := c.Pong) (Cell.here (i := 10) rfl).tail.tail ?_
      refine Tri.ldI (v := c.Close) (Cell.here (i := 11) rfl).tail.tail ?_
      rw [hI, hP, hC]
      have e17 : IntKind.wrap .i64 ((IntKind.wrap .i64 ((IntKind.wrap .i64 ((9 : Int) + 3)) + 4)) + 1) = 17 := by decide +kernel
      rw [e17]
      have h9y : ∀ i, cnt 9 (y.get i).leg.ctl < 549755813888 := fun i => by have := h9 i; have := zk.c9 i; have := yk.c9 i; omega
      refine Tri.bnd (brTick_spec hK y1 y2 h9y) ?_
      rintro _ _ rfl
      refine Tri.lt ?_
      rw [hw1]
      obtain ⟨t1, t2⟩ := tick_ok y1 y2 c 17 h9y
      have ysn : Sane y (21474836480 + j * 1073741824) := zs.tm ys.tm (by omega)
      obtain ⟨g1, g2⟩ := tick_gone ysn (by omega) (by omega) hI hP hC
      refine ih _ _ ⟨j + 1, y.tick c 17, rfl, by omega, t1, t2, (zk.trans yk (k := 2 * j) (by omega)).trans (keeps_tick y c 17) (by omega), (sane_tick ysn (by omega) (by omega) c 17).weak (by omega), fun _ => g1, fun h2 => g2 fun i => ?_, rfl⟩ (by simp; omega)
      rw [ys.lost, ys.asked]
      exact za (by omega) i
  · have d1 : decide ((j : Int) < 10) = false := by simp; omega
    rw [d1]
    simp only [Bool.false_eq_true, if_false, bnd_ret]
    exact Tri.ret ⟨z, over_of_lost (zl (by omega)), rfl⟩
theorem bridgeEnds_spec {k : A5u8} {m s o n y draw : Nat} {sl : Sl} {acts : List Tref17_Act} (hK : KBig K) (e0 : k.e0 = (m : Int)) (e1 : k.e1 = (s : Int)) (e2 : k.e2 = (o : Int)) (e3 : k.e3 = (n : Int)) (e4 : k.e4 = (y : Int)) (hm : m < 256) (hs : s < 256) (ho : o < 256) (hn : n < 256) (hy : y < 256) (hd : draw < 4294967296)
    (hr : ∀ {L' : As}, Rd ρ L' sl 4 (ac7l acts)) (hl : sl.n = acts.length) (hw : ∀ t ∈ acts, act17Ok t) : Tri ρ [] (law17_BridgeEnds K k draw sl) (fun r _ => r = true) := by
  unfold law17_BridgeEnds
  refine Tri.new fun x1 => Tri.ldG k rfl (Cells.here (i := 0) (by simp) (by rfl)) (Tri.drop ?_)
  refine Tri.bnd (config5_spec e0 e1 e2 e3 e4 hm hs ho hn hy) ?_
  rintro _ _ ⟨b, rfl, rfl⟩
  refine Tri.new fun x4 => ?_
  refine Tri.stB (l := Agg.cells (cfg5 b m s o n y)) (by rfl) (by simp [Agg.cells]) rfl ?_
  rw [cfgSplice _ _ rfl]
  refine Tri.ldG (cfg5 b m s o n y) rfl (Cells.here (i := 0) (by simp [Agg.cells]) rfl) ?_
  refine Tri.pick 1 rfl (Tri.bnd (bridge0_spec hK hm hs ho hy hd) ?_)
  rintro _ _ ⟨p, rfl, rfl⟩
  refine Tri.bnd (awake17_spec hK) ?_
  rintro _ _ ⟨rfl, rfl⟩
  have hd0 : ((0 : Int) != 0) = false := rfl
  simp only [Bool.not_true, Bool.false_eq_true, if_false, bnd_ret, hd0, Option.isNone_some]
  obtain ⟨f0, f1⟩ := Bm.new_ok (message := 1 + m) (frame := 1 + s) (out := 1 + o) (count := 1 + n % 8) (bytes := 1 + m + y) (draw := draw) (by omega) (by omega) hd
  have cM : (cfg5 b m s o n y).Message = ((1 + m : Nat) : Int) := rfl
  have hI : (cfg5 b m s o n y).Idle = 9 := rfl
  have hP : (cfg5 b m s o n y).Pong = 3 := rfl
  have hC : (cfg5 b m s o n y).Close = 4 := rfl
  have h90 : ∀ j, cnt 9 ((Bm.new (1 + m) (1 + s) (1 + o) (1 + n % 8) (1 + m + y) draw).get j).leg.ctl = 0 := fun j => by cases j <;> rfl
  have hs0 : Sane (Bm.new (1 + m) (1 + s) (1 + o) (1 + n % 8) (1 + m + y) draw) 0 := fun j => by cases j <;> exact ⟨Int.le_refl _, Int.le_refl _, Int.le_refl _, Int.le_refl _⟩
  generalize Bm.new (1 + m) (1 + s) (1 + o) (1 + n % 8) (1 + m + y) draw = x0 at f0 f1 h90 hs0 ⊢
  generalize cfg5 b m s o n y = c at cM hI hP hC ⊢
  refine Tri.bnd (acts20_ends hK cM f0 f1 hs0 h90 hr hl hw) ?_
  rintro _ _ ⟨x, hok, hfit, hkp, hsa, rfl⟩
  refine Tri.bnd (rounds_ends hK hI hP hC hok hfit (fun i => by have := hkp.c9 i; rw [h90] at this; omega) hsa) ?_
  rintro _ _ ⟨z, hz, rfl⟩
  refine Tri.bnd brOver_spec ?_
  rintro _ _ ⟨rfl, rfl⟩
  exact Tri.ret hz
theorem bridgeEnds_walk {W : World} {l0 : List Int} (hn0 : l0.length = 5) (hw0 : ∀ x ∈ l0, (Lit.int .u8 x).wf = true) {a1 : Int} (w1 : (Lit.int .u32 a1).wf = true) {a2 : Option Addr} {len2 cap2 : Nat} {l2 : List Tref17_Act} (hl2 : len2 = l2.length) (hc2 : len2 ≤ maxLen) (ho2 : ∀ t ∈ l2, act17Ok t)
    (hr2 : rdSl W ⟨a2, len2, cap2⟩ 4 = some (l2.flatMap fun t => Agg.cells t)) :
    Calls Tryz.prog 13 #[.agg (l0.map (Value.int .u8)).toArray, .int .u32 a1, .slice a2 len2 cap2] W fun e w' => e = .returned (.bool true) ∧ RowKit.Below W.heap.size W w' := by
  obtain ⟨x, y, z, u, v, rfl, hx, hy, hz, hu, hv⟩ := five hn0 hw0
  obtain ⟨d, rfl, hd⟩ := u32n w1
  obtain ⟨K, hK⟩ : ∃ K, KBig K := ⟨_, Nat.le_refl _⟩
  exact (law17_BridgeEnds_ref K ⟨(x : Int), (y : Int), (z : Int), (u : Int), (v : Int)⟩ (d : Int) ⟨a2, len2, cap2⟩).call (bridgeEnds_spec hK rfl rfl rfl rfl rfl hx hy hz hu hv hd (Rd.old hr2) hl2 ho2)
end Go.Proofs.YtjdnjlnfcbaokaaGreat

/-
  SPECS, 22: bridge: what a session is; what is asked of a side. Own work.
-/
import Derived.Test.YtjdnjlnfcbaokaaGreatSp21
set_option linter.unusedVariables false
set_option linter.unusedSimpArgs false
set_option maxRecDepth 20000
namespace Go.Proofs.YtjdnjlnfcbaokaaGreat
open Go Go.Lg
variable {α β σ τ : Type} {ρ : Hp} {L M : As} {K : Nat}

structure Sd where
  leg : Lm
  q : Qm
  lost : Bool
  last : Int
  heard : Int
  asked : Bool
  ending : Int
structure Bm where
  a : Sd
  b : Sd
def Bm.get (x : Bm) (i : Bool) : Sd := if i then x.b else x.a
def Bm.set (x : Bm) (i : Bool) (s : Sd) : Bm := if i then { x with b := s } else { x with a := s }
@[simp] theorem get_set (x : Bm) (i : Bool) (s : Sd) : (x.set i s).get i = s := by cases i <;> rfl
@[simp] theorem get_set' (x : Bm) (i : Bool) (s : Sd) : (x.set i s).get (!i) = x.get (!i) := by cases i <;> rfl
@[simp] theorem get_set2 (x : Bm) (i : Bool) (s : Sd) : (x.set (!i) s).get i = x.get i := by cases i <;> rfl
def ix (i : Bool) : Int := if i then 1 else 0
def off (i : Bool) : Nat := if i then 19 else 12
def sideC (s : Sd) (l q : Nat) : List Value := [.pointer (some ⟨l, 0, none⟩), .pointer (some ⟨q, 0, none⟩), .bool s.lost, .int .i64 s.last, .int .i64 s.heard, .bool s.asked, .int .i64 s.ending]
def brC (c : Tapi_Config) (x : Bm) (l q : Bool → Nat) : List Value := Agg.cells c ++ (sideC x.a (l false) (q false) ++ sideC x.b (l true) (q true))
theorem brC_len (c : Tapi_Config) (x : Bm) (l q : Bool → Nat) : (brC c x l q).length = 26 := rfl
/-- the statements' configurations -/
structure CfgOk (c : Tapi_Config) : Prop where
  message : ∃ n : Nat, c.Message = (n : Int) ∧ n ≤ 65536
def brI (p : Nat) (c : Tapi_Config) (x : Bm) : Assn := fun h => ∃ l q : Bool → Nat,
  sat [pts p (brC c x l q), legI (l false) c x.a.leg, legI (l true) c x.b.leg, queueI (q false) x.a.q, queueI (q true) x.b.q] h
/-- opened: the side i first -/
theorem brOpen (i : Bool) {p : Nat} {c : Tapi_Config} {x : Bm} {m : G β} {C : β → As → Prop}
    (h : ∀ l q : Bool → Nat, Tri ρ (pts p (brC c x l q) :: legI (l i) c (x.get i).leg :: legI (l (!i)) c (x.get (!i)).leg :: queueI (q i) (x.get i).q :: queueI (q (!i)) (x.get (!i)).q :: L) m C) : Tri ρ (brI p c x :: L) m C := by
  refine Tri.openA (P := fun N => ∃ l q : Bool → Nat, N = [pts p (brC c x l q), legI (l false) c x.a.leg, legI (l true) c x.b.leg, queueI (q false) x.a.q, queueI (q true) x.b.q]) ?_ ?_
  · rintro k ⟨l, q, h1⟩; exact ⟨_, ⟨l, q, rfl⟩, h1⟩
  · rintro N ⟨l, q, rfl⟩
    have h1 := h l q
    cases i with
    | false => exact h1
    | true => exact Tri.order [0, 1, 0, 1] rfl h1
theorem brClose (i : Bool) {p : Nat} {c : Tapi_Config} {x : Bm} {m : G β} {C : β → As → Prop} {l q : Bool → Nat} (h : Tri ρ (brI p c x :: L) m C) :
    Tri ρ (pts p (brC c x l q) :: legI (l i) c (x.get i).leg :: legI (l (!i)) c (x.get (!i)).leg :: queueI (q i) (x.get i).q :: queueI (q (!i)) (x.get (!i)).q :: L) m C := by
  have key : Tri ρ ([pts p (brC c x l q), legI (l false) c x.a.leg, legI (l true) c x.b.leg, queueI (q false) x.a.q, queueI (q true) x.b.q] ++ L) m C := Tri.close (fun k hk => ⟨l, q, hk⟩) h
  cases i with
  | false => exact key
  | true => exact Tri.order [0, 1, 0, 1] rfl key
/-- closed again, with other parts: the side i's, and the other one's -/
theorem brClose2 (i : Bool) {p : Nat} {c : Tapi_Config} {x : Bm} {m : G β} {C : β → As → Prop} {l q : Bool → Nat} {cs : List Value} {y z : Lm} {r s : Qm} (hc : cs = brC c x l q) (h1 : y = (x.get i).leg) (h2 : z = (x.get (!i)).leg) (h3 : r = (x.get i).q) (h4 : s = (x.get (!i)).q)
    (h : Tri ρ (brI p c x :: L) m C) : Tri ρ (pts p cs :: legI (l i) c y :: legI (l (!i)) c z :: queueI (q i) r :: queueI (q (!i)) s :: L) m C := by
  subst hc; subst h1; subst h2; subst h3; subst h4; exact brClose i h
theorem ofs (p : Nat) (i : Bool) (k : Nat) : (((⟨p, 0, none⟩ : Addr).add 12).add ((ix i).toNat * 7)).add k = ⟨p, off i + k, none⟩ := by
  cases i <;> simp [ix, off, addr_add]
theorem ofs0 (p : Nat) (i : Bool) : (((⟨p, 0, none⟩ : Addr).add 12).add ((ix i).toNat * 7)) = ⟨p, off i, none⟩ := by
  cases i <;> simp [ix, off, addr_add]
theorem offa (p : Nat) (i : Bool) (k : Nat) : (⟨p, off i, none⟩ : Addr).add k = ⟨p, off i + k, none⟩ := addr_add _ _ _
theorem ix_wrap (i : Bool) : IntKind.wrap .i64 ((1 : Int) - ix i) = ix (!i) := by cases i <;> rfl
theorem ix_ok (i : Bool) : 0 ≤ ix i ∧ ix i < ((2 : Nat) : Int) := by cases i <;> simp [ix]
section
variable {c : Tapi_Config} {x : Bm} {l q : Bool → Nat} {p : Nat}
theorem cLeg (i : Bool) : Cell ρ (pts p (brC c x l q) :: L) ⟨p, off i + 0, none⟩ (.pointer (some ⟨l i, 0, none⟩)) := by cases i <;> exact Cell.here rfl
theorem cQ (i : Bool) : Cell ρ (pts p (brC c x l q) :: L) ⟨p, off i + 1, none⟩ (.pointer (some ⟨q i, 0, none⟩)) := by cases i <;> exact Cell.here rfl
theorem cLost (i : Bool) : Cell ρ (pts p (brC c x l q) :: L) ⟨p, off i + 2, none⟩ (.bool (x.get i).lost) := by cases i <;> exact Cell.here rfl
theorem cLast (i : Bool) : Cell ρ (pts p (brC c x l q) :: L) ⟨p, off i + 3, none⟩ (.int .i64 (x.get i).last) := by cases i <;> exact Cell.here rfl
theorem cHeard (i : Bool) : Cell ρ (pts p (brC c x l q) :: L) ⟨p, off i + 4, none⟩ (.int .i64 (x.get i).heard) := by cases i <;> exact Cell.here rfl
theorem cAsked (i : Bool) : Cell ρ (pts p (brC c x l q) :: L) ⟨p, off i + 5, none⟩ (.bool (x.get i).asked) := by cases i <;> exact Cell.here rfl
theorem cEnding (i : Bool) : Cell ρ (pts p (brC c x l q) :: L) ⟨p, off i + 6, none⟩ (.int .i64 (x.get i).ending) := by cases i <;> exact Cell.here rfl
theorem sLost (i : Bool) (v : Bool) : splice (brC c x l q) (off i + 2) [.bool v] = brC c (x.set i { x.get i with lost := v }) l q := by cases i <;> rfl
theorem sLast (i : Bool) (v : Int) : splice (brC c x l q) (off i + 3) [.int .i64 v] = brC c (x.set i { x.get i with last := v }) l q := by cases i <;> rfl
theorem sHeard (i : Bool) (v : Int) : splice (brC c x l q) (off i + 4) [.int .i64 v] = brC c (x.set i { x.get i with heard := v }) l q := by cases i <;> rfl
theorem sAsked (i : Bool) (v : Bool) : splice (brC c x l q) (off i + 5) [.bool v] = brC c (x.set i { x.get i with asked := v }) l q := by cases i <;> rfl
theorem sEnding (i : Bool) (v : Int) : splice (brC c x l q) (off i + 6) [.int .i64 v] = brC c (x.set i { x.get i with ending := v }) l q := by cases i <;> rfl
/-- the block's cells tell of legs and queues only where they lie -/
theorem brC_leg (i : Bool) (y : Lm) : brC c (x.set i { x.get i with leg := y }) l q = brC c x l q := by cases i <;> rfl
theorem brC_q (i : Bool) (y : Qm) : brC c (x.set i { x.get i with q := y }) l q = brC c x l q := by cases i <;> rfl
theorem off_le (i : Bool) : off i ≤ 19 := by cases i <;> simp [off]
end
theorem stSide {c : Tapi_Config} {x y : Bm} {l q : Bool → Nat} {p k : Nat} {i : Bool} {v : Value} {f : G β} {C : β → As → Prop} (hk : k < 7) (hv : v.cells.toList = [v]) (ho : one v = true) (hs : splice (brC c x l q) (off i + k) [v] = brC c y l q)
    (h : Tri ρ (pts p (brC c y l q) :: L) f C) : Tri ρ (pts p (brC c x l q) :: L) (st ⟨p, off i + k, none⟩ v f) C :=
  Tri.stB hv (by rw [brC_len]; have := off_le i; simp; omega) (by simp [ho]) (by rw [hs]; exact h)
/-! ### what is asked of a side -/
def Sd.deaf (s : Sd) : Bool := s.lost || s.leg.got || s.leg.wrong != 0
def Sd.over (s : Sd) : Bool := s.lost || (s.leg.sent && (s.leg.got || s.leg.wrong != 0) && s.leg.quiet)
def Sd.end_ (s : Sd) (code : Int) : Sd := if s.last < 0 then { s with last := code } else s
theorem deaf_spec {p : Nat} {c : Tapi_Config} {x : Bm} {i : Bool} : Tri ρ (brI p c x :: L) (bridge_side_deaf K (some ⟨p, off i, none⟩)) (fun r L' => r = (x.get i).deaf ∧ L' = brI p c x :: L) := by
  unfold bridge_side_deaf
  refine brOpen i fun l q => Tri.nn ?_
  rw [offa]
  refine Tri.ldB (cLost i) ?_
  have fin : ∀ r, r = (x.get i).deaf → Tri ρ (pts p (brC c x l q) :: legI (l i) c (x.get i).leg :: legI (l (!i)) c (x.get (!i)).leg :: queueI (q i) (x.get i).q :: queueI (q (!i)) (x.get (!i)).q :: L) (ret r) (fun r L' => r = (x.get i).deaf ∧ L' = brI p c x :: L) := fun r h => brClose i (Tri.ret ⟨h, rfl⟩)
  cases h1 : (x.get i).lost with
  | true => simp only [if_true, bnd_ret]; exact fin _ (by simp [Sd.deaf, h1])
  | false =>
    simp only [Bool.false_eq_true, if_false, bnd_ret, bnd_bnd, bnd_ite, bnd_lt, bnd_ldB, bnd_ldI, bnd_ldS, bnd_ldP, bnd_ldSl, bnd_ldG, bnd_nn, bnd_ixA, bnd_st, bnd_drw, bnd_strOf, bnd_new, bnd_slS, bnd_slA, bnd_slStr, bnd_app, bnd_appS, bnd_appT, bnd_appZ, bnd_chk, bnd_mk, bnd_cpy, bnd_wld, bnd_agr, bnd_bytesOf, bnd_drw2, bnd_mrk, bnd_fail, sumK_inl, sumK_inr, bnd_inr]
    refine Tri.nn ?_
    rw [offa]
    refine Tri.ldP (cLeg i) (Tri.pick 1 rfl (Tri.bnd legGotS ?_))
    rintro _ _ ⟨rfl, rfl⟩
    refine Tri.pick 1 rfl ?_
    cases h2 : (x.get i).leg.got with
    | true => simp only [if_true, bnd_ret]; exact fin _ (by simp [Sd.deaf, h2])
    | false =>
      simp only [Bool.false_eq_true, if_false, bnd_ret, bnd_bnd, bnd_ite, bnd_lt, bnd_ldB, bnd_ldI, bnd_ldS, bnd_ldP, bnd_ldSl, bnd_ldG, bnd_nn, bnd_ixA, bnd_st, bnd_drw, bnd_strOf, bnd_new, bnd_slS, bnd_slA, bnd_slStr, bnd_app, bnd_appS, bnd_appT, bnd_appZ, bnd_chk, bnd_mk, bnd_cpy, bnd_wld, bnd_agr, bnd_bytesOf, bnd_drw2, bnd_mrk, bnd_fail, sumK_inl, sumK_inr, bnd_inr]
      refine Tri.nn ?_
      rw [offa]
      refine Tri.ldP (cLeg i) (Tri.pick 1 rfl (Tri.bnd legWrongS ?_))
      rintro _ _ ⟨rfl, rfl⟩
      refine Tri.pick 1 rfl (fin _ ?_)
      rw [bneN, Bool.eq_iff_iff]
      simp [Sd.deaf, h1, h2]
theorem over_spec {p : Nat} {c : Tapi_Config} {x : Bm} {i : Bool} : Tri ρ (brI p c x :: L) (bridge_side_over K (some ⟨p, off i, none⟩)) (fun r L' => r = (x.get i).over ∧ L' = brI p c x :: L) := by
  unfold bridge_side_over
  refine brOpen i fun l q => Tri.nn ?_
  rw [offa]
  refine Tri.ldB (cLost i) ?_
  have fin : ∀ r, r = (x.get i).over → Tri ρ (pts p (brC c x l q) :: legI (l i) c (x.get i).leg :: legI (l (!i)) c (x.get (!i)).leg :: queueI (q i) (x.get i).q :: queueI (q (!i)) (x.get (!i)).q :: L) (ret r) (fun r L' => r = (x.get i).over ∧ L' = brI p c x :: L) := fun r h => brClose i (Tri.ret ⟨h, rfl⟩)
  have leg : ∀ {m : G Bool}, (∀ {k : Nat} {r : Lm → Bool}, True) → True := fun _ => trivial
  cases h1 : (x.get i).lost with
  | true => simp only [if_true, bnd_ret]; exact fin _ (by simp [Sd.over, h1])
  | false =>
    simp only [Bool.false_eq_true, if_false, bnd_ret, bnd_bnd, bnd_ite, bnd_lt, bnd_ldB, bnd_ldI, bnd_ldS, bnd_ldP, bnd_ldSl, bnd_ldG, bnd_nn, bnd_ixA, bnd_st, bnd_drw, bnd_strOf, bnd_new, bnd_slS, bnd_slA, bnd_slStr, bnd_app, bnd_appS, bnd_appT, bnd_appZ, bnd_chk, bnd_mk, bnd_cpy, bnd_wld, bnd_agr, bnd_bytesOf, bnd_drw2, bnd_mrk, bnd_fail, sumK_inl, sumK_inr, bnd_inr]
    refine Tri.nn ?_
    rw [offa]
    refine Tri.ldP (cLeg i) (Tri.pick 1 rfl (Tri.bnd legSentS ?_))
    rintro _ _ ⟨rfl, rfl⟩
    refine Tri.pick 1 rfl ?_
    cases h2 : (x.get i).leg.sent with
    | false => simp only [Bool.false_eq_true, if_false, bnd_ret]; exact fin _ (by simp [Sd.over, h1, h2])
    | true =>
      simp only [if_true, bnd_ret, bnd_bnd, bnd_ite, bnd_lt, bnd_ldB, bnd_ldI, bnd_ldS, bnd_ldP, bnd_ldSl, bnd_ldG, bnd_nn, bnd_ixA, bnd_st, bnd_drw, bnd_strOf, bnd_new, bnd_slS, bnd_slA, bnd_slStr, bnd_app, bnd_appS, bnd_appT, bnd_appZ, bnd_chk, bnd_mk, bnd_cpy, bnd_wld, bnd_agr, bnd_bytesOf, bnd_drw2, bnd_mrk, bnd_fail, sumK_inl, sumK_inr, bnd_inr]
      refine Tri.nn ?_
      rw [offa]
      refine Tri.ldP (cLeg i) (Tri.pick 1 rfl (Tri.bnd legGotS ?_))
      rintro _ _ ⟨rfl, rfl⟩
      refine Tri.pick 1 rfl ?_
      have quiet : ((x.get i).leg.got || (x.get i).leg.wrong != 0) = true → Tri ρ (pts p (brC c x l q) :: legI (l i) c (x.get i).leg :: legI (l (!i)) c (x.get (!i)).leg :: queueI (q i) (x.get i).q :: queueI (q (!i)) (x.get (!i)).q :: L)
          (nn (some (⟨p, off i, none⟩ : Addr)) fun x16 => ldP (x16.add 0) fun x17 => bnd (leg_Leg_Quiet K x17) fun x18 => ret x18) (fun r L' => r = (x.get i).over ∧ L' = brI p c x :: L) := by
        intro hg
        refine Tri.nn ?_
        rw [offa]
        refine Tri.ldP (cLeg i) (Tri.pick 1 rfl (Tri.bnd legQuietS ?_))
        rintro _ _ ⟨rfl, rfl⟩
        exact Tri.pick 1 rfl (fin _ (by simp only [Sd.over, h1, h2, hg]; simp))
      cases h3 : (x.get i).leg.got with
      | true =>
        simp only [if_true, bnd_ret]
        exact quiet (by simp [h3])
      | false =>
        simp only [Bool.false_eq_true, if_false, bnd_ret, bnd_bnd, bnd_ite, bnd_lt, bnd_ldB, bnd_ldI, bnd_ldS, bnd_ldP, bnd_ldSl, bnd_ldG, bnd_nn, bnd_ixA, bnd_st, bnd_drw, bnd_strOf, bnd_new, bnd_slS, bnd_slA, bnd_slStr, bnd_app, bnd_appS, bnd_appT, bnd_appZ, bnd_chk, bnd_mk, bnd_cpy, bnd_wld, bnd_agr, bnd_bytesOf, bnd_drw2, bnd_mrk, bnd_fail, sumK_inl, sumK_inr, bnd_inr]
        refine Tri.nn ?_
        rw [offa]
        refine Tri.ldP (cLeg i) (Tri.pick 1 rfl (Tri.bnd legWrongS ?_))
        rintro _ _ ⟨rfl, rfl⟩
        refine Tri.pick 1 rfl ?_
        rw [bneN]
        by_cases h4 : (x.get i).leg.wrong ≠ 0
        · rw [decide_eq_true h4]
          simp only [if_true, bnd_ret]
          exact quiet (by simp [h4])
        · rw [decide_eq_false h4]
          simp only [Bool.false_eq_true, if_false, bnd_ret]
          refine fin _ ?_
          have : (x.get i).leg.wrong = 0 := by omega
          simp [Sd.over, h1, h2, h3, this]
theorem end__spec {p : Nat} {c : Tapi_Config} {x : Bm} {i : Bool} {code : Int} {l q : Bool → Nat} : Tri ρ (pts p (brC c x l q) :: L) (bridge_side_end K (some ⟨p, off i, none⟩) code) (fun _ L' => L' = pts p (brC c (x.set i ((x.get i).end_ code)) l q) :: L) := by
  unfold bridge_side_end
  refine Tri.nn ?_
  rw [offa]
  refine Tri.ldI (cLast i) (Tri.ite ?_ ?_)
  · intro h
    have h' : (x.get i).last < 0 := by simpa using h
    refine Tri.nn ?_
    rw [offa]
    refine stSide (y := x.set i { x.get i with last := code }) (by omega) (by rfl) rfl (sLast i code) (Tri.ret ?_)
    unfold Sd.end_; rw [if_pos h']
  · intro h
    have h' : ¬ (x.get i).last < 0 := by simpa using h
    refine Tri.ret ?_
    unfold Sd.end_; rw [if_neg h']
    have : x.set i (x.get i) = x := by cases i <;> rfl
    rw [this]
theorem has_eq (a : Int) : bridge_has K a = ret (decide (a = 0 ∨ a = 1)) := by
  unfold bridge_has
  by_cases h : a = 0
  · subst h; rfl
  · have hd : (a == 0) = false := by simp [h]
    rw [hd]
    simp only [Bool.false_eq_true, if_false, bnd_ret]
    congr 1; rw [Bool.eq_iff_iff]; simp [h]
end Go.Proofs.YtjdnjlnfcbaokaaGreat

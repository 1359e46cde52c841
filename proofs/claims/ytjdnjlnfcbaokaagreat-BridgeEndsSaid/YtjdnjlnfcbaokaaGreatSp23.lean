/-
  SPECS, 23: bridge: to settle. Own work.
-/
import Derived.Test.YtjdnjlnfcbaokaaGreatSp22
set_option linter.unusedVariables false
set_option linter.unusedSimpArgs false
set_option maxRecDepth 20000
namespace Go.Proofs.YtjdnjlnfcbaokaaGreat
open Go Go.Lg
variable {α β σ τ : Type} {ρ : Hp} {L M : As} {K : Nat}

def Lm.drain : Lm → List Ev → Lm × List Ev
  | x, [] => (x, [])
  | x, e :: r => if (x.send e).2 = true then Lm.drain (x.send e).1 r else (x, e :: r)
def Bm.settle1 (x : Bm) (i : Bool) : Bm :=
  if (x.get i).lost = true ∨ (x.get i).leg.sent = true then x.set (!i) { x.get (!i) with q := { (x.get (!i)).q with l := [] } }
  else (x.set i { x.get i with leg := if 0 ≤ (x.get i).last ∧ ((x.get i).leg.drain (x.get (!i)).q.l).1.free = true ∧ ((x.get i).leg.drain (x.get (!i)).q.l).2 = [] then (((x.get i).leg.drain (x.get (!i)).q.l).1.close (x.get i).last []).1 else ((x.get i).leg.drain (x.get (!i)).q.l).1 }).set (!i) { x.get (!i) with q := { (x.get (!i)).q with l := ((x.get i).leg.drain (x.get (!i)).q.l).2 } }
def Bm.settle (x : Bm) : Bm := (x.settle1 false).settle1 true
theorem drain_cons (x : Lm) (e : Ev) (r : List Ev) : x.drain (e :: r) = if (x.send e).2 = true then (x.send e).1.drain r else (x, e :: r) := rfl
theorem drain_ok : ∀ {es : List Ev} {x : Lm}, x.Ok → x.Fit → (x.drain es).1.Ok ∧ (x.drain es).1.Fit
  | [], x, h1, h2 => ⟨h1, h2⟩
  | e :: r, x, h1, h2 => by
    unfold Lm.drain
    split
    · obtain ⟨q1, q2⟩ := send_ok h1 h2 e
      exact drain_ok q1 q2
    · exact ⟨h1, h2⟩
theorem send_false {x : Lm} {e : Ev} (h : (x.send e).2 = false) : x.send e = (x, false) := by
  unfold Lm.send at h ⊢
  split
  · rename_i hc; rw [if_pos hc] at h; simp at h
  · rfl
theorem cellsPtr {u : Nat} {v : Option Addr} {L' : As} : Cell ρ (pts u [.pointer v] :: L') ⟨u, 0, none⟩ (.pointer v) := Cell.here rfl
/-- one message moved on, if it may be -/
theorem next1_spec {u v p lm qo k : Nat} {c : Tapi_Config} {cs : List Value} {y : Lm} {r : Qm} (hK : KBig K) (hy : y.Fit) (hcs : cs[k + 0]? = some (.pointer (some ⟨lm, 0, none⟩))) :
    Tri ρ (pts u [.pointer (some ⟨p, k, none⟩)] :: pts v [.pointer (some ⟨qo, 0, none⟩)] :: pts p cs :: legI lm c y :: queueI qo r :: L) (bridge_Bridge_settle_1 K ⟨v, 0, none⟩ ⟨u, 0, none⟩)
      (fun b L' => match r.l with
        | [] => b = false ∧ L' = pts u [.pointer (some ⟨p, k, none⟩)] :: pts v [.pointer (some ⟨qo, 0, none⟩)] :: pts p cs :: legI lm c y :: queueI qo r :: L
        | e :: t => if (y.send e).2 = true then b = true ∧ L' = pts u [.pointer (some ⟨p, k, none⟩)] :: pts v [.pointer (some ⟨qo, 0, none⟩)] :: pts p cs :: legI lm c (y.send e).1 :: queueI qo { r with l := t } :: L
          else b = false ∧ L' = pts u [.pointer (some ⟨p, k, none⟩)] :: pts v [.pointer (some ⟨qo, 0, none⟩)] :: pts p cs :: legI lm c y :: queueI qo r :: L) := by
  unfold bridge_Bridge_settle_1
  refine Tri.ldP cellsPtr.tail ?_
  refine Tri.pick 4 rfl (Tri.bnd qPeek_spec ?_)
  rintro _ _ ⟨rfl, rfl⟩
  dsimp only
  rw [evc_zero]
  refine Tri.new fun x3 => stEv (e := r.first) rfl (evc_len _) ?_
  cases hr : r.l with
  | nil =>
    simp only [List.isEmpty_nil, Bool.not_true, Bool.not_false, if_true, bnd_drw, bnd_ret]
    refine Tri.drw (Tri.drop (Tri.order [1, 1, 1, 1] rfl (Tri.ret ⟨rfl, rfl⟩)))
  | cons e t =>
    have hf : r.first = e := by simp [Qm.first, hr]
    simp only [List.isEmpty_cons, Bool.not_false, Bool.not_true, Bool.false_eq_true, if_false, bnd_ret, bnd_bnd, bnd_ite, bnd_lt, bnd_ldB, bnd_ldI, bnd_ldS, bnd_ldP, bnd_ldSl, bnd_ldG, bnd_nn, bnd_ixA, bnd_st, bnd_drw, bnd_strOf, bnd_new, bnd_slS, bnd_slA, bnd_slStr, bnd_app, bnd_appS, bnd_appT, bnd_appZ, bnd_chk, bnd_mk, bnd_cpy, bnd_wld, bnd_agr, bnd_bytesOf, bnd_drw2, bnd_mrk, bnd_fail, sumK_inl, sumK_inr, bnd_inr]
    rw [hf]
    refine Tri.drw (Tri.ldP cellsPtr.tail.tail (Tri.nn ?_))
    rw [addr_add]
    refine Tri.ldP (Cell.here hcs).tail.tail.tail.tail (ldEv ?_)
    refine Tri.order [5] rfl (Tri.bnd (legSendS hK hy) ?_)
    rintro _ _ ⟨rfl, rfl⟩
    cases hs : (y.send e).2 with
    | true =>
      simp only [Bool.not_true, Bool.false_eq_true, if_false, if_true]
      refine Tri.ldP cellsPtr.tail.tail.tail.tail ?_
      refine Tri.order [2] rfl (Tri.bnd qTake_spec ?_)
      rintro _ _ ⟨_, rfl⟩
      have hp : r.pop = { r with l := t } := by unfold Qm.pop; rw [hr]; rfl
      rw [hp]
      refine Tri.order [2] rfl (Tri.drop (Tri.order [2, 2, 2, 1, 0] rfl (Tri.ret ⟨rfl, rfl⟩)))
    | false =>
      simp only [Bool.not_false, if_true, Bool.false_eq_true, if_false]
      rw [send_false hs]
      refine Tri.order [1] rfl (Tri.drop (Tri.order [2, 2, 2, 0, 0] rfl (Tri.ret ⟨rfl, rfl⟩)))
/-- as many as may be -/
theorem drain_spec {u v p lm qo k : Nat} {c : Tapi_Config} {cs : List Value} {y : Lm} {r : Qm} (hK : KBig K) (hy : y.Ok) (hyf : y.Fit) (hcs : cs[k + 0]? = some (.pointer (some ⟨lm, 0, none⟩))) (hrl : r.l.length ≤ 1024) :
    Tri ρ (pts u [.pointer (some ⟨p, k, none⟩)] :: pts v [.pointer (some ⟨qo, 0, none⟩)] :: pts p cs :: legI lm c y :: queueI qo r :: L) (loopG (bridge_Bridge_settle_l1 K (⟨u, 0, none⟩, ⟨v, 0, none⟩)) K ())
      (fun _ L' => L' = pts u [.pointer (some ⟨p, k, none⟩)] :: pts v [.pointer (some ⟨qo, 0, none⟩)] :: pts p cs :: legI lm c (y.drain r.l).1 :: queueI qo { r with l := (y.drain r.l).2 } :: L) := by
  refine Tri.loopN (I := fun n _ L' => ∃ (z : Lm) (t : List Ev), n = t.length ∧ z.Ok ∧ z.Fit ∧ z.drain t = y.drain r.l ∧ L' = pts u [.pointer (some ⟨p, k, none⟩)] :: pts v [.pointer (some ⟨qo, 0, none⟩)] :: pts p cs :: legI lm c z :: queueI qo { r with l := t } :: L) ?_ r.l.length (by unfold KBig at hK; omega) ⟨y, r.l, rfl, hy, hyf, rfl, rfl⟩
  rintro again _ _ L' ⟨z, t, rfl, hz, hzf, hd, rfl⟩ ih
  unfold bridge_Bridge_settle_l1
  refine Tri.bnd (next1_spec (r := { r with l := t }) hK hzf hcs) ?_
  intro b L' hb
  dsimp only at hb
  cases ht : t with
  | nil =>
    rw [ht] at hb hd
    obtain ⟨rfl, rfl⟩ := hb
    simp only [Bool.false_eq_true, if_false]
    rw [← hd]
    exact Tri.ret rfl
  | cons e t' =>
    rw [ht] at hb hd
    dsimp only at hb
    rw [drain_cons] at hd
    split at hb
    · rename_i hs
      obtain ⟨rfl, rfl⟩ := hb
      simp only [if_true]
      rw [if_pos hs] at hd
      obtain ⟨q1, q2⟩ := send_ok hz hzf e
      exact ih t'.length _ _ (by rw [ht]; simp) ⟨_, t', rfl, q1, q2, hd, rfl⟩
    · rename_i hs
      obtain ⟨rfl, rfl⟩ := hb
      simp only [Bool.false_eq_true, if_false]
      rw [if_neg hs] at hd
      rw [← hd]
      exact Tri.ret rfl
/-- none left -/
theorem empty_spec {u v qo b1 : Nat} {r : Qm} {ev : Ev} {is : Bool} (hK : KBig K) (his : is = false → r.l = []) (hrl : r.l.length ≤ 1024) :
    Tri ρ (pts b1 (evc ev) :: pts u [.pointer (some ⟨qo, 0, none⟩)] :: queueI qo r :: L) (loopG (bridge_Bridge_settle_l0 K (⟨v, 0, none⟩, ⟨u, 0, none⟩)) K (⟨b1, 0, none⟩, is))
      (fun _ L' => L' = pts u [.pointer (some ⟨qo, 0, none⟩)] :: queueI qo { r with l := [] } :: L) := by
  refine Tri.loopN (I := fun n (s : Addr × Bool) L' => ∃ (b : Nat) (ev : Ev) (t : List Ev), s.1 = ⟨b, 0, none⟩ ∧ n = t.length + (if s.2 = true then 1 else 0) ∧ (s.2 = false → t = []) ∧ L' = pts b (evc ev) :: pts u [.pointer (some ⟨qo, 0, none⟩)] :: queueI qo { r with l := t } :: L) ?_ (r.l.length + (if is = true then 1 else 0)) (by unfold KBig at hK; split <;> omega) ⟨b1, ev, r.l, rfl, rfl, his, rfl⟩
  rintro again _ ⟨s1, s2⟩ L' ⟨b, ev, t, h1, rfl, h3, rfl⟩ ih
  dsimp only at h1 h3 ih
  subst h1
  unfold bridge_Bridge_settle_l0
  dsimp only
  cases s2 with
  | false =>
    simp only [Bool.false_eq_true, if_false]
    rw [h3 rfl]
    exact Tri.drop (Tri.ret rfl)
  | true =>
    simp only [if_true] at ih ⊢
    refine ldEv ?_
    rw [evc_zero]
    refine Tri.new fun x341 => stEv (e := ev) rfl (evc_len _) ?_
    refine Tri.ldP cellsPtr.tail.tail ?_
    refine Tri.pick 3 rfl (Tri.bnd qTake_spec ?_)
    rintro _ _ ⟨rfl, rfl⟩
    dsimp only
    have hp : Qm.pop { r with l := t } = { r with l := t.tail } := rfl
    rw [hp]
    refine Tri.order [2] rfl (Tri.drop (Tri.order [1, 1, 0] rfl ?_))
    refine ih (t.tail.length + (if (!t.isEmpty) = true then 1 else 0)) _ _ ?_ ⟨x341, ev, t.tail, rfl, rfl, ?_, rfl⟩
    · cases t with
      | nil => simp
      | cons e t => simp
    · cases t with
      | nil => simp
      | cons e t => simp
/-! ### settle -/
structure Bm.Fit (x : Bm) : Prop where
  a : x.a.leg.Fit
  b : x.b.leg.Fit
theorem Bm.Fit.get {x : Bm} (h : x.Fit) (i : Bool) : (x.get i).leg.Fit := by cases i <;> first | exact h.a | exact h.b
theorem Bm.Fit.set {x : Bm} (h : x.Fit) (i : Bool) {s : Sd} (hs : s.leg.Fit) : (x.set i s).Fit := by
  cases i with
  | false => exact ⟨hs, h.b⟩
  | true => exact ⟨h.a, hs⟩
structure Bm.Ok (x : Bm) : Prop where
  a : x.a.leg.Ok
  b : x.b.leg.Ok
theorem Bm.Ok.get {x : Bm} (h : x.Ok) (i : Bool) : (x.get i).leg.Ok := by cases i <;> first | exact h.a | exact h.b
theorem Bm.Ok.set {x : Bm} (h : x.Ok) (i : Bool) {s : Sd} (hs : s.leg.Ok) : (x.set i s).Ok := by
  cases i with
  | false => exact ⟨hs, h.b⟩
  | true => exact ⟨h.a, hs⟩
theorem settle1_ok {x : Bm} (h : x.Ok) (hf : x.Fit) (i : Bool) : (x.settle1 i).Ok ∧ (x.settle1 i).Fit := by
  unfold Bm.settle1
  split
  · exact ⟨h.set _ (h.get _), hf.set _ (hf.get _)⟩
  · obtain ⟨q1, q2⟩ := drain_ok (es := (x.get (!i)).q.l) (h.get i) (hf.get i)
    have key : (if 0 ≤ (x.get i).last ∧ ((x.get i).leg.drain (x.get (!i)).q.l).1.free = true ∧ ((x.get i).leg.drain (x.get (!i)).q.l).2 = [] then (((x.get i).leg.drain (x.get (!i)).q.l).1.close (x.get i).last []).1 else ((x.get i).leg.drain (x.get (!i)).q.l).1 : Lm).Ok ∧
        (if 0 ≤ (x.get i).last ∧ ((x.get i).leg.drain (x.get (!i)).q.l).1.free = true ∧ ((x.get i).leg.drain (x.get (!i)).q.l).2 = [] then (((x.get i).leg.drain (x.get (!i)).q.l).1.close (x.get i).last []).1 else ((x.get i).leg.drain (x.get (!i)).q.l).1 : Lm).Fit := by
      split
      · exact close_ok q1 q2 _ _
      · exact ⟨q1, q2⟩
    exact ⟨(h.set i key.1).set _ (h.get _), (hf.set i key.2).set _ (hf.get _)⟩
theorem settle_ok {x : Bm} (h : x.Ok) (hf : x.Fit) : x.settle.Ok ∧ x.settle.Fit := by
  obtain ⟨q1, q2⟩ := settle1_ok h hf false
  exact settle1_ok q1 q2 true
/-- what is known of the legs of a session that stands -/
theorem brFact {p : Nat} {c : Tapi_Config} {x : Bm} {m : G β} {C : β → As → Prop} (h : LegAt c x.a.leg → LegAt c x.b.leg → x.a.q.Ok → x.b.q.Ok → Tri ρ (brI p c x :: L) m C) : Tri ρ (brI p c x :: L) m C := by
  refine brOpen false fun l q => ?_
  refine Tri.pick 1 rfl (legFact fun h1 => ?_)
  refine Tri.pick 2 rfl (legFact fun h2 => ?_)
  refine Tri.pick 3 rfl (queueOpen fun h3 s hs => queueClose h3 hs ?_)
  refine Tri.pick 4 rfl (queueOpen fun h4 s hs => queueClose h4 hs ?_)
  refine Tri.order [4, 3, 2, 1, 0] rfl ?_
  refine Tri.order [0] rfl (brClose (x := x) false (h h1 h2 h3 h4))
theorem settle1_spec {p : Nat} {c : Tapi_Config} {x : Bm} {i : Bool} (hK : KBig K) (hf : x.Fit) {again : Int → G Unit} {s187 : Int} {C : Unit → As → Prop} (hs : s187 = ix i)
    (h : Tri ρ (brI p c (x.settle1 i) :: L) (again (IntKind.wrap .i64 (s187 + 1))) C) : Tri ρ (brI p c x :: L) (bridge_Bridge_settle_l2 K (some ⟨p, 0, none⟩) again s187) C := by
  subst hs
  unfold bridge_Bridge_settle_l2
  have hd : decide (ix i < (2 : Int)) = true := by cases i <;> rfl
  rw [hd]
  simp only [if_true]
  rw [ix_wrap]
  refine brOpen i fun l q => ?_
  have e1 : (((⟨p, 0, none⟩ : Addr).add 12).add ((ix (!i)).toNat * 7)).add 1 = ⟨p, off (!i) + 1, none⟩ := ofs p (!i) 1
  have e2 : (((⟨p, 0, none⟩ : Addr).add 12).add ((ix i).toNat * 7)) = ⟨p, off i, none⟩ := ofs0 p i
  refine Tri.bnd (B := fun _ L' => L' = brI p c (x.settle1 i) :: L) ?_ ?_
  · -- the two names
    refine Tri.bnd (B := fun r L' => ∃ u v, r = (⟨u, 0, none⟩, ⟨v, 0, none⟩) ∧ L' = pts u [.pointer (some ⟨p, off i, none⟩)] :: pts v [.pointer (some ⟨q (!i), 0, none⟩)] :: pts p (brC c x l q) :: legI (l i) c (x.get i).leg :: legI (l (!i)) c (x.get (!i)).leg :: queueI (q i) (x.get i).q :: queueI (q (!i)) (x.get (!i)).q :: L) ?_ ?_
    · refine Tri.drw2 ?_ ?_
      · refine Tri.nn (Tri.chk (ix_ok i) (Tri.nn (Tri.chk (ix_ok (!i)) ?_)))
        rw [e1, e2]
        refine Tri.wld1 (cQ (!i)) fun w hw => Tri.ldP (cQ (!i)) (Tri.new fun u => Tri.agr1 hw (cQ (!i)).tail (Tri.new fun v => Tri.agr1 hw (cQ (!i)).tail.tail ?_))
        refine Tri.pick 1 rfl (Tri.stB (i := 0) (l := [.pointer (some ⟨p, off i, none⟩)]) (by rfl) (by simp) rfl (Tri.agr1 hw (cQ (!i)).tail.tail ?_))
        refine Tri.pick 1 rfl (Tri.stB (i := 0) (l := [.pointer (some ⟨q (!i), 0, none⟩)]) (by rfl) (by simp) rfl ?_)
        exact Tri.pick 1 rfl (Tri.ret ⟨u, v, rfl, rfl⟩)
      · refine Tri.nn (Tri.chk (ix_ok i) (Tri.nn (Tri.chk (ix_ok (!i)) ?_)))
        rw [e1, e2]
        refine Tri.wld1 (cQ (!i)) fun w hw => Tri.ldP (cQ (!i)) (Tri.new fun v => Tri.agr1 hw (cQ (!i)).tail (Tri.new fun u => Tri.agr1 hw (cQ (!i)).tail.tail ?_))
        refine Tri.stB (i := 0) (l := [.pointer (some ⟨p, off i, none⟩)]) (by rfl) (by simp) rfl (Tri.agr1 hw (cQ (!i)).tail.tail ?_)
        refine Tri.pick 1 rfl (Tri.stB (i := 0) (l := [.pointer (some ⟨q (!i), 0, none⟩)]) (by rfl) (by simp) rfl ?_)
        exact Tri.pick 1 rfl (Tri.ret ⟨u, v, rfl, rfl⟩)
    · rintro _ _ ⟨u, v, rfl, rfl⟩
      dsimp only
      refine Tri.ldP cellsPtr (Tri.nn ?_)
      rw [offa]
      refine Tri.ldB (cLost i).tail.tail ?_
      refine Tri.bnd (B := fun r L' => r = decide ((x.get i).lost = true ∨ (x.get i).leg.sent = true) ∧ L' = pts u [.pointer (some ⟨p, off i, none⟩)] :: pts v [.pointer (some ⟨q (!i), 0, none⟩)] :: pts p (brC c x l q) :: legI (l i) c (x.get i).leg :: legI (l (!i)) c (x.get (!i)).leg :: queueI (q i) (x.get i).q :: queueI (q (!i)) (x.get (!i)).q :: L) ?_ ?_
      · cases h1 : (x.get i).lost with
        | true => simp only [if_true]; exact Tri.ret ⟨by simp, rfl⟩
        | false =>
          simp only [Bool.false_eq_true, if_false]
          refine Tri.ldP cellsPtr (Tri.nn ?_)
          rw [offa]
          refine Tri.ldP (cLeg i).tail.tail (Tri.pick 3 rfl (Tri.bnd legSentS ?_))
          rintro _ _ ⟨rfl, rfl⟩
          exact Tri.order [1, 1, 1] rfl (Tri.ret ⟨by simp, rfl⟩)
      rintro _ _ ⟨rfl, rfl⟩
      refine Tri.pick 6 rfl (queueOpen fun hqo sq hsq => queueClose hqo hsq ?_)
      have hq1024 : (x.get (!i)).q.l.length ≤ 1024 := by have := hqo.len; have := hqo.count; omega
      by_cases hcond : (x.get i).lost = true ∨ (x.get i).leg.sent = true
      · rw [decide_eq_true hcond]
        simp only [if_true]
        have hset : x.settle1 i = x.set (!i) { x.get (!i) with q := { (x.get (!i)).q with l := [] } } := by unfold Bm.settle1; rw [if_pos hcond]
        rw [hset]
        refine Tri.ldP cellsPtr.tail.tail (Tri.bnd qTake_spec ?_)
        rintro _ _ ⟨rfl, rfl⟩
        dsimp only
        rw [evc_zero]
        refine Tri.new fun x323 => stEv (e := (x.get (!i)).q.first) rfl (evc_len _) ?_
        refine Tri.order [0, 2, 0] rfl ?_
        refine Tri.bnd (empty_spec (r := (x.get (!i)).q.pop) (v := u) (u := v) hK ?_ ?_) ?_
        · intro h; cases hl : (x.get (!i)).q.l with
          | nil => show (x.get (!i)).q.l.tail = []; rw [hl]; rfl
          | cons e t => rw [hl] at h; simp at h
        · show (x.get (!i)).q.l.tail.length ≤ 1024; simp; omega
        rintro _ _ rfl
        refine Tri.drop (Tri.order [1] rfl (Tri.drop (Tri.order [1, 1, 1, 1, 0] rfl ?_)))
        refine brClose2 (x := x.set (!i) { x.get (!i) with q := { (x.get (!i)).q with l := [] } }) i (brC_q (!i) _).symm ?_ ?_ ?_ ?_ (Tri.ret rfl)
        · rw [get_set2]
        · rw [get_set]
        · rw [get_set2]
        · rw [get_set]; rfl
      · rw [decide_eq_false hcond]
        simp only [Bool.false_eq_true, if_false]
        refine Tri.pick 4 rfl (legFact fun hat => Tri.order [2, 2, 2, 0, 0] rfl ?_)
        have hcs : (brC c x l q)[off i + 0]? = some (.pointer (some ⟨l i, 0, none⟩)) := by cases i <;> rfl
        refine Tri.bnd (drain_spec hK hat.ok (hf.get i) hcs hq1024) ?_
        rintro _ _ rfl
        obtain ⟨z1, z2⟩ := drain_ok (es := (x.get (!i)).q.l) hat.ok (hf.get i)
        have hset : x.settle1 i = (x.set i { x.get i with leg := if 0 ≤ (x.get i).last ∧ ((x.get i).leg.drain (x.get (!i)).q.l).1.free = true ∧ ((x.get i).leg.drain (x.get (!i)).q.l).2 = [] then (((x.get i).leg.drain (x.get (!i)).q.l).1.close (x.get i).last []).1 else ((x.get i).leg.drain (x.get (!i)).q.l).1 }).set (!i) { x.get (!i) with q := { (x.get (!i)).q with l := ((x.get i).leg.drain (x.get (!i)).q.l).2 } } := by
          conv => lhs; unfold Bm.settle1
          rw [if_neg hcond]
        rw [hset]
        generalize (x.get i).leg.drain (x.get (!i)).q.l = d at z1 z2 ⊢
        obtain ⟨z, t⟩ := d
        dsimp only at z1 z2 ⊢
        have cls : ∀ (z' : Lm) (m : G Unit), z' = (if 0 ≤ (x.get i).last ∧ z.free = true ∧ t = [] then (z.close (x.get i).last []).1 else z) → m = ret () →
            Tri ρ (pts u [.pointer (some ⟨p, off i, none⟩)] :: pts v [.pointer (some ⟨q (!i), 0, none⟩)] :: pts p (brC c x l q) :: legI (l i) c z' :: queueI (q (!i)) { (x.get (!i)).q with l := t } :: legI (l (!i)) c (x.get (!i)).leg :: queueI (q i) (x.get i).q :: L) m
              (fun _ L' => L' = brI p c ((x.set i { x.get i with leg := if 0 ≤ (x.get i).last ∧ z.free = true ∧ t = [] then (z.close (x.get i).last []).1 else z }).set (!i) { x.get (!i) with q := { (x.get (!i)).q with l := t } }) :: L) := by
          rintro z' m rfl rfl
          refine Tri.drop (Tri.drop (Tri.order [0, 0, 1, 1, 0] rfl ?_))
          refine brClose2 (x := (x.set i { x.get i with leg := if 0 ≤ (x.get i).last ∧ z.free = true ∧ t = [] then (z.close (x.get i).last []).1 else z }).set (!i) { x.get (!i) with q := { (x.get (!i)).q with l := t } }) i ?_ ?_ ?_ ?_ ?_ (Tri.ret rfl)
          · have := brC_q (c := c) (x := x.set i { x.get i with leg := if 0 ≤ (x.get i).last ∧ z.free = true ∧ t = [] then (z.close (x.get i).last []).1 else z }) (l := l) (q := q) (!i) { (x.get (!i)).q with l := t }
            rw [get_set'] at this
            rw [this, brC_leg]
          · rw [get_set2, get_set]
          · rw [get_set]
          · rw [get_set2, get_set]
          · rw [get_set]
        refine Tri.ldP cellsPtr (Tri.nn ?_)
        rw [offa]
        refine Tri.ldI (cLast i).tail.tail ?_
        refine Tri.bnd (B := fun r L' => r = decide (0 ≤ (x.get i).last ∧ z.free = true) ∧ L' = pts u [.pointer (some ⟨p, off i, none⟩)] :: pts v [.pointer (some ⟨q (!i), 0, none⟩)] :: pts p (brC c x l q) :: legI (l i) c z :: queueI (q (!i)) { (x.get (!i)).q with l := t } :: legI (l (!i)) c (x.get (!i)).leg :: queueI (q i) (x.get i).q :: L) ?_ ?_
        · by_cases h0 : 0 ≤ (x.get i).last
          · have hd : decide ((0 : Int) ≤ (x.get i).last) = true := by simpa using h0
            rw [hd]
            simp only [if_true]
            refine Tri.ldP cellsPtr (Tri.nn ?_)
            rw [offa]
            refine Tri.ldP (cLeg i).tail.tail (Tri.pick 3 rfl (Tri.bnd legFreeS ?_))
            rintro _ _ ⟨rfl, rfl⟩
            refine Tri.order [1, 1, 1] rfl (Tri.ret ⟨?_, rfl⟩)
            simp [h0]
          · have hd : decide ((0 : Int) ≤ (x.get i).last) = false := by simpa using h0
            rw [hd]
            simp only [Bool.false_eq_true, if_false]
            exact Tri.ret ⟨by rw [eq_comm, decide_eq_false]; exact fun h => h0 h.1, rfl⟩
        rintro _ _ ⟨rfl, rfl⟩
        refine Tri.bnd (B := fun r L' => r = decide (0 ≤ (x.get i).last ∧ z.free = true ∧ t = []) ∧ L' = pts u [.pointer (some ⟨p, off i, none⟩)] :: pts v [.pointer (some ⟨q (!i), 0, none⟩)] :: pts p (brC c x l q) :: legI (l i) c z :: queueI (q (!i)) { (x.get (!i)).q with l := t } :: legI (l (!i)) c (x.get (!i)).leg :: queueI (q i) (x.get i).q :: L) ?_ ?_
        · by_cases h0 : 0 ≤ (x.get i).last ∧ z.free = true
          · rw [decide_eq_true h0]
            simp only [if_true]
            refine Tri.ldP cellsPtr.tail (Tri.pick 4 rfl (Tri.bnd qLen_spec ?_))
            rintro _ _ ⟨rfl, rfl⟩
            refine Tri.order [1, 1, 1, 1] rfl (Tri.ret ⟨?_, rfl⟩)
            rw [beqN, Bool.eq_iff_iff]
            simp only [decide_eq_true_eq, List.length_eq_zero_iff]
            exact ⟨fun h => ⟨h0.1, h0.2, h⟩, fun h => h.2.2⟩
          · rw [decide_eq_false h0]
            simp only [Bool.false_eq_true, if_false]
            exact Tri.ret ⟨by rw [eq_comm, decide_eq_false]; exact fun h => h0 ⟨h.1, h.2.1⟩, rfl⟩
        rintro _ _ ⟨rfl, rfl⟩
        by_cases h0 : 0 ≤ (x.get i).last ∧ z.free = true ∧ t = []
        · rw [decide_eq_true h0]
          simp only [if_true]
          refine Tri.drw (Tri.ldP cellsPtr (Tri.nn ?_))
          rw [offa]
          refine Tri.ldP (cLeg i).tail.tail (Tri.ldP cellsPtr (Tri.nn ?_))
          rw [offa]
          refine Tri.ldI (cLast i).tail.tail ?_
          rw [ba_nil]
          refine Tri.pick 3 rfl (Tri.bnd (legCloseS (w := []) hK z2 (by simp)) ?_)
          rintro _ _ ⟨rfl, rfl⟩
          exact Tri.order [1, 1, 1] rfl (cls _ _ (by rw [if_pos h0]) rfl)
        · rw [decide_eq_false h0]
          simp only [Bool.false_eq_true, if_false]
          exact cls _ _ (by rw [if_neg h0]) rfl
  · rintro _ _ rfl
    exact h
theorem settle_spec {p : Nat} {c : Tapi_Config} {x : Bm} (hK : KBig K) (hok : x.Ok) (hf : x.Fit) : Tri ρ (brI p c x :: L) (bridge_Bridge_settle K (some ⟨p, 0, none⟩)) (fun _ L' => L' = brI p c x.settle :: L) := by
  unfold bridge_Bridge_settle
  obtain ⟨k, hk⟩ : ∃ k, K = k + 1 + 1 + 1 := ⟨K - 3, by unfold KBig at hK; omega⟩
  have e : ∀ M, M = K → loopG (bridge_Bridge_settle_l2 K (some ⟨p, 0, none⟩)) M 0 = bridge_Bridge_settle_l2 K (some ⟨p, 0, none⟩) (bridge_Bridge_settle_l2 K (some ⟨p, 0, none⟩) (bridge_Bridge_settle_l2 K (some ⟨p, 0, none⟩) (loopG (bridge_Bridge_settle_l2 K (some ⟨p, 0, none⟩)) k))) 0 := by
    intro M hM
    rw [hk] at hM
    generalize K = K' at *
    subst hM
    rfl
  rw [e K rfl]
  obtain ⟨q1, q2⟩ := settle1_ok hok hf false
  refine settle1_spec (i := false) hK hf rfl ?_
  have w1 : IntKind.wrap .i64 ((0 : Int) + 1) = 1 := by decide +kernel
  rw [w1]
  refine settle1_spec (i := true) hK q2 rfl ?_
  have w2 : IntKind.wrap .i64 ((1 : Int) + 1) = 2 := by decide +kernel
  rw [w2]
  conv in bridge_Bridge_settle_l2 K _ _ 2 => unfold bridge_Bridge_settle_l2
  exact Tri.ret rfl
end Go.Proofs.YtjdnjlnfcbaokaaGreat

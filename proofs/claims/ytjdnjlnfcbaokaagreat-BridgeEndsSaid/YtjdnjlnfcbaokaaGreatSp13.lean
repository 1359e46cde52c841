/-
  SPECS, 13: leg: take, Feed. Own work.
-/
import Derived.Test.YtjdnjlnfcbaokaaGreatSp12
set_option linter.unusedVariables false
set_option linter.unusedSimpArgs false
set_option maxRecDepth 20000
namespace Go.Proofs.YtjdnjlnfcbaokaaGreat
open Go Go.Lg
variable {α β σ τ : Type} {ρ : Hp} {L M : As} {K : Nat}

theorem mtake_op {m : Ms} {f : Fr} (hm : m.op ≤ 2) : (m.take f).1.op ≤ 2 := by
  unfold Ms.take
  split
  · exact hm
  · split
    · exact hm
    · split
      · simp [Ms.stop]
      · rename_i c3
        split
        · unfold Ms.endM; dsimp only; split <;> simp [Ms.stop]
        · split
          · exact hm
          · rename_i c4 c5
            have hform : formF f = true := by
              cases hf : formF f with
              | true => rfl
              | false => simp [chkF, hf] at c3
            have hk : knownOp f.op = true := by simp only [formF, Bool.and_eq_true] at hform; exact hform.1.1
            have hf2 : f.op ≤ 2 := by
              simp only [knownOp, Bool.or_eq_true, beq_iff_eq] at hk
              rw [Bool.not_eq_true] at c5
              rw [c5] at hk
              simp at hk; omega
            have hb : (m.begun f).op ≤ 2 := by
              unfold Ms.begun
              split
              · exact hf2
              · exact hm
            unfold Ms.dataM
            dsimp only
            split
            · simp [Ms.stop]
            · split
              · simp [Ms.stop]
              · split
                · simp [Ms.stop]
                · split
                  · show (if (m.begun f).op = 1 then _ else _ : Ms).op ≤ 2
                    split <;> exact hb
                  · simp [Ms.stop]
theorem withM_ok {x : Lm} (hok : x.Ok) (h : x.Fit) (f : Fr) : ({ x with m := (x.m.take f).1 } : Lm).Ok ∧ ({ x with m := (x.m.take f).1 } : Lm).Fit :=
  ⟨⟨hok.message, hok.frame, hok.most, by show (x.m.take f).1.most = _; rw [mtake_most]; exact hok.mm, hok.draw, hok.ctl, hok.rest, hok.tail⟩, ⟨h.part, h.rest, h.pong, h.end_, h.ping, h.ops, mtake_op h.mop⟩⟩
theorem withGot_ok {x : Lm} (hok : x.Ok) (h : x.Fit) : ({ x with got := true } : Lm).Ok ∧ ({ x with got := true } : Lm).Fit :=
  ⟨⟨hok.message, hok.frame, hok.most, hok.mm, hok.draw, hok.ctl, hok.rest, hok.tail⟩, ⟨h.part, h.rest, h.pong, h.end_, h.ping, h.ops, h.mop⟩⟩
theorem takeF_ok {x : Lm} (hok : x.Ok) (h : x.Fit) (f : Fr) : (x.takeF f).1.Ok ∧ (x.takeF f).1.Fit := by
  obtain ⟨q1, q2⟩ := withM_ok hok h f
  unfold Lm.takeF
  dsimp only
  split
  · exact fail_ok q1 q2 _
  · split
    · rename_i c
      exact pong_ok q1 q2 (mtake_ctl h.mop c.1 (by simpa using c.2))
    · split
      · obtain ⟨r1, r2⟩ := withGot_ok q1 q2
        exact close_ok r1 r2 _ _
      · exact ⟨q1, q2⟩
theorem legTakeFS {a : Nat} {c : Tapi_Config} {x : Lm} {f : Fr} (hK : KBig K) (h : x.Fit) (hb : f.data.length ≤ 1099511627776) :
    Tri ρ (legI a c x :: L) (leg_Leg_take K (some ⟨a, 0, none⟩) f.t) (fun r L' => (∃ e : Ev, r.1 = e.t ∧ ((r.2 = true ∧ (x.takeF f).2 = some e) ∨ (r.2 = false ∧ (x.takeF f).2 = none))) ∧ L' = legI a c (x.takeF f).1 :: L) := by
  unfold leg_Leg_take
  rw [evc_zero]
  refine Tri.new fun x1 => Tri.new fun x2 => ?_
  have hfc : Agg.cells f.t = frc f := rfl
  rw [hfc]
  refine Tri.pick 2 rfl (legOpen fun hok hcfg si mi ri tl ct rs htl hct hrs => ?_)
  obtain ⟨q1, q2⟩ := withM_ok hok h f
  have key := mtake_ctl (m := x.m) (f := f) h.mop
  have hdef : x.takeF f = (let r := x.m.take f
      let y : Lm := { x with m := r.1 }
      if r.2.2.2 ≠ 0 then (y.fail r.2.2.2, none)
      else if r.2.2.1 = true ∧ r.2.1.op = 9 then (y.pong r.2.1.data, none)
      else if r.2.2.1 = true ∧ r.2.1.op = 8 then ((({ y with got := true } : Lm).close (acrossOf r.2.1.code) []).1, some r.2.1)
      else (y, if r.2.2.1 = true then some r.2.1 else none)) := rfl
  rw [hdef]
  have c13 : ∀ {L' : As}, Cell ρ (pts a (legC c x si mi ri tl ct rs) :: L') ⟨a, 13, none⟩ (.pointer (some ⟨mi, 0, none⟩)) := Cell.here (i := 13) rfl
  refine Tri.bnd (B := fun r L' => ∃ b, r = (⟨b, 0, none⟩, (x.m.take f).2.2.1, ((x.m.take f).2.2.2 : Int)) ∧ L' = legI a c { x with m := (x.m.take f).1 } :: pts b (evc (x.m.take f).2.1) :: pts x2 (evc Ev.none) :: pts x1 (frc f) :: L) ?_ ?_
  · have close : ∀ {b : Nat}, Tri ρ (msgI mi (x.m.take f).1 :: pts a (legC c x si mi ri tl ct rs) :: ringI ri x.out x.ring :: row tl 1 (bl x.tail) :: row ct 8 (frl x.ctl) :: row rs 8 (frl x.rest) :: streamI si x.inn :: pts b (evc (x.m.take f).2.1) :: pts x2 (evc Ev.none) :: pts x1 (frc f) :: L)
        (ret ((⟨b, 0, none⟩ : Addr), (x.m.take f).2.2.1, ((x.m.take f).2.2.2 : Int)))
        (fun r L' => ∃ b, r = (⟨b, 0, none⟩, (x.m.take f).2.2.1, ((x.m.take f).2.2.2 : Int)) ∧ L' = legI a c { x with m := (x.m.take f).1 } :: pts b (evc (x.m.take f).2.1) :: pts x2 (evc Ev.none) :: pts x1 (frc f) :: L) := by
      intro b
      refine Tri.order [1, 1, 1, 1, 1, 1] rfl ?_
      refine legClose (x := { x with m := (x.m.take f).1 }) q1 hcfg htl hct hrs ?_
      exact Tri.ret ⟨b, rfl, rfl⟩
    refine Tri.drw2 ?_ ?_
    · refine Tri.nn (Tri.ldP c13 ?_)
      refine Tri.ldG f.t rfl (Cells.here (i := 0) (by simp [Fr.cells, frc]) (by rfl)).tail.tail.tail.tail.tail.tail.tail.tail ?_
      refine Tri.pick 6 rfl (Tri.bnd (mtake_spec hK hb) ?_)
      rintro _ _ ⟨rfl, rfl⟩
      refine Tri.new fun b => stEv (e := (x.m.take f).2.1) rfl (evc_len _) ?_
      exact Tri.order [1, 1, 1, 1, 1, 1, 1] rfl close
    · refine Tri.nn ?_
      have e13 : (⟨a, 0, none⟩ : Addr).add 13 = ⟨a, 13, none⟩ := rfl
      rw [e13]
      refine Tri.wld1 c13 fun w22 h22 => Tri.ldP c13 ?_
      refine Tri.wldC (l := Agg.cells f.t) (Cells.here (i := 0) (by simp [Fr.cells, frc]) (by rfl)).tail.tail.tail.tail.tail.tail.tail.tail fun w24 h24 => ?_
      refine Tri.ldG f.t rfl (Cells.here (i := 0) (by simp [Fr.cells, frc]) (by rfl)).tail.tail.tail.tail.tail.tail.tail.tail ?_
      refine Tri.new fun b => ?_
      refine Tri.agr1 h22 c13.tail ?_
      refine Tri.agrC (l := Agg.cells f.t) rfl h24 (Cells.here (i := 0) (by simp [Fr.cells, frc]) (by rfl)).tail.tail.tail.tail.tail.tail.tail.tail.tail ?_
      refine Tri.pick 7 rfl (Tri.bnd (mtake_spec hK hb) ?_)
      rintro _ _ ⟨rfl, rfl⟩
      refine Tri.pick 1 rfl (stEv (e := (x.m.take f).2.1) rfl (evc_len _) ?_)
      exact Tri.order [1, 1, 1, 1, 1, 1, 1] rfl close
  · rintro _ _ ⟨b, rfl, rfl⟩
    generalize hr : x.m.take f = r at q1 q2 key ⊢
    obtain ⟨m', ev, is, e⟩ := r
    dsimp only at q1 q2 key ⊢
    refine Tri.lt ?_
    by_cases he : e = 0
    · subst he
      have hd : (((0 : Nat) : Int) != 0) = false := rfl
      rw [hd]
      simp only [Bool.false_eq_true, if_false, ne_eq, not_true]
      have cEv : ∀ {i : Nat} {v : Value} {A : Assn} {L' : As}, (evc ev)[i]? = some v → Cell ρ (A :: pts b (evc ev) :: L') ⟨b, i, none⟩ v := fun hv => (Cell.here hv).tail
      have hop : ∀ {A : Assn} {L' : As} {n : Int} {g : Bool → G (Tapi_Event × Bool)} {C : Tapi_Event × Bool → As → Prop}, Tri ρ (A :: pts b (evc ev) :: L') (g (decide (is = true ∧ ev.op = n))) C →
          Tri ρ (A :: pts b (evc ev) :: L') (bnd (if is = true then ldI .i64 ((⟨b, 0, none⟩ : Addr).add 0) fun x32 => ret (x32 == n) else ret false) g) C := by
        intro A L' n g C hh
        cases is with
        | true =>
          simp only [if_true, bnd_ret, bnd_bnd, bnd_ite, bnd_lt, bnd_ldB, bnd_ldI, bnd_ldS, bnd_ldP, bnd_ldSl, bnd_ldG, bnd_nn, bnd_ixA, bnd_st, bnd_drw, bnd_strOf, bnd_new, bnd_slS, bnd_slA, bnd_slStr, bnd_app, bnd_appS, bnd_appT, bnd_appZ, bnd_chk, bnd_mk, bnd_cpy, bnd_wld, bnd_agr, bnd_bytesOf, bnd_drw2, bnd_mrk, bnd_fail, sumK_inl, sumK_inr, bnd_inr]
          refine Tri.ldI (cEv (i := 0) rfl) ?_
          have : (ev.op == n) = decide (true = true ∧ ev.op = n) := by simp; rfl
          rw [this]; exact hh
        | false =>
          simp only [Bool.false_eq_true, if_false, bnd_ret, bnd_bnd, bnd_ite, bnd_lt, bnd_ldB, bnd_ldI, bnd_ldS, bnd_ldP, bnd_ldSl, bnd_ldG, bnd_nn, bnd_ixA, bnd_st, bnd_drw, bnd_strOf, bnd_new, bnd_slS, bnd_slA, bnd_slStr, bnd_app, bnd_appS, bnd_appT, bnd_appZ, bnd_chk, bnd_mk, bnd_cpy, bnd_wld, bnd_agr, bnd_bytesOf, bnd_drw2, bnd_mrk, bnd_fail, sumK_inl, sumK_inr, bnd_inr]
          have : false = decide (false = true ∧ ev.op = n) := by simp
          rw [this]; exact hh
      refine hop ?_
      by_cases h9 : is = true ∧ ev.op = 9
      · rw [decide_eq_true h9]
        simp only [if_true]
        refine Tri.ldS (cEv (i := 2) rfl) ?_
        refine Tri.bnd (legPongS hK q2 (key h9.1 h9.2)) ?_
        rintro _ _ rfl
        have et : Tapi_Event.mk (0 : Int) (0 : Int) (ByteArray.mk #[]) = Ev.none.t := rfl
        rw [et]
        refine Tri.pick 2 rfl (stEv (e := Ev.none) rfl (evc_len _) (ldEv (Tri.drop ?_)))
        refine Tri.pick 1 rfl (Tri.drop (Tri.pick 1 rfl (Tri.drop (Tri.ret ⟨⟨Ev.none, rfl, .inr ⟨rfl, ?_⟩⟩, ?_⟩))))
        · rw [if_pos h9]
        · rw [if_pos h9]
      · rw [decide_eq_false h9]
        simp only [Bool.false_eq_true, if_false]
        refine hop ?_
        by_cases h8 : is = true ∧ ev.op = 8
        · rw [decide_eq_true h8]
          simp only [if_true, bnd_ret, bnd_bnd, bnd_ite, bnd_lt, bnd_ldB, bnd_ldI, bnd_ldS, bnd_ldP, bnd_ldSl, bnd_ldG, bnd_nn, bnd_ixA, bnd_st, bnd_drw, bnd_strOf, bnd_new, bnd_slS, bnd_slA, bnd_slStr, bnd_app, bnd_appS, bnd_appT, bnd_appZ, bnd_chk, bnd_mk, bnd_cpy, bnd_wld, bnd_agr, bnd_bytesOf, bnd_drw2, bnd_mrk, bnd_fail, sumK_inl, sumK_inr, bnd_inr]
          have q3 := withGot_ok q1 q2
          refine legOpen fun hok1 hcfg1 si mi ri tl ct rs htl hct hrs => ?_
          refine Tri.nn (Tri.stB (i := 21) (l := [.bool true]) (by rfl) (by simp [legC]) rfl ?_)
          have e2 : splice (legC c { x with m := m' } si mi ri tl ct rs) 21 [.bool true] = legC c { x with m := m', got := true } si mi ri tl ct rs := rfl
          rw [e2]
          refine legClose (x := { x with m := m', got := true }) q3.1 hcfg1 htl hct hrs ?_
          refine Tri.ldI (cEv (i := 1) rfl) ?_
          refine Tri.bnd across_spec ?_
          rintro _ _ ⟨rfl, rfl⟩
          rw [ba_nil]
          refine Tri.bnd (legCloseS (w := []) hK q3.2 (by simp)) ?_
          rintro _ _ ⟨rfl, rfl⟩
          refine Tri.pick 1 rfl (ldEv ?_)
          refine Tri.pick 2 rfl (stEv (e := ev) rfl (evc_len _) (ldEv (Tri.drop ?_)))
          refine Tri.drop (Tri.pick 1 rfl (Tri.drop (Tri.ret ⟨⟨ev, rfl, .inl ⟨h8.1, ?_⟩⟩, ?_⟩)))
          · rw [if_neg h9, if_pos h8]
          · rw [if_neg h9, if_pos h8]
        · rw [decide_eq_false h8]
          simp only [Bool.false_eq_true, if_false, bnd_ret]
          refine Tri.pick 1 rfl (ldEv ?_)
          refine Tri.pick 2 rfl (stEv (e := ev) rfl (evc_len _) (ldEv (Tri.drop ?_)))
          refine Tri.drop (Tri.pick 1 rfl (Tri.drop (Tri.ret ⟨⟨ev, rfl, ?_⟩, ?_⟩)))
          · rw [if_neg h9, if_neg h8]
            cases is with
            | true => exact .inl ⟨rfl, rfl⟩
            | false => exact .inr ⟨rfl, rfl⟩
          · rw [if_neg h9, if_neg h8]
    · have hd : ((e : Int) != 0) = true := by simp; omega
      rw [hd]
      simp only [if_true, if_pos he]
      refine Tri.bnd (legFailS hK q2) ?_
      rintro _ _ rfl
      have et : Tapi_Event.mk (0 : Int) (0 : Int) (ByteArray.mk #[]) = Ev.none.t := rfl
      rw [et]
      refine Tri.pick 2 rfl (stEv (e := Ev.none) rfl (evc_len _) (ldEv (Tri.drop ?_)))
      have he' : ¬ (e = 0) := he
      refine Tri.pick 1 rfl (Tri.drop (Tri.pick 1 rfl (Tri.drop (Tri.ret ⟨⟨Ev.none, rfl, .inr ⟨rfl, ?_⟩⟩, ?_⟩))))
      · simp [he']
      · simp [he']
/-! ### Feed -/
theorem bneN (n : Nat) : ((n : Int) != 0) = decide (n ≠ 0) := by
  rw [Bool.eq_iff_iff]; simp only [bne_iff_ne, decide_eq_true_eq]; omega
theorem feedL_cons (x : Lm) (f : Fr) (fs : List Fr) : x.feedL (f :: fs) = if (x.takeF f).1.got = true ∨ (x.takeF f).1.wrong ≠ 0 then ((x.takeF f).1, (x.takeF f).2.toList, true)
    else (((x.takeF f).1.feedL fs).1, (x.takeF f).2.toList ++ ((x.takeF f).1.feedL fs).2.1, ((x.takeF f).1.feedL fs).2.2) := rfl
def evl (es : List Ev) : List Value := es.flatMap evc
theorem evl_length (es : List Ev) : (evl es).length = es.length * 3 := by
  induction es with
  | nil => rfl
  | cons e es ih => simp only [evl, List.flatMap_cons, List.length_append] at ih ⊢; rw [ih, evc_len]; simp; omega
theorem evl_snoc (es : List Ev) (e : Ev) : evl (es ++ [e]) = evl es ++ evc e := by simp [evl]
theorem feedL_len : ∀ (fs : List Fr) (x : Lm), (x.feedL fs).2.1.length ≤ fs.length
  | [], x => by simp [Lm.feedL]
  | f :: fs, x => by
    have h1 : ∀ o : Option Ev, o.toList.length ≤ 1 := fun o => by cases o <;> simp
    have h2 := h1 (x.takeF f).2
    have h3 := feedL_len fs (x.takeF f).1
    unfold Lm.feedL
    split
    · simp; omega
    · simp; omega
theorem feedL_ok : ∀ {fs : List Fr} {x : Lm}, x.Ok → x.Fit → (x.feedL fs).1.Ok ∧ (x.feedL fs).1.Fit
  | [], x, h1, h2 => ⟨h1, h2⟩
  | f :: fs, x, h1, h2 => by
    obtain ⟨q1, q2⟩ := takeF_ok h1 h2 f
    unfold Lm.feedL
    split
    · exact ⟨q1, q2⟩
    · exact feedL_ok (fs := fs) q1 q2
theorem withIn_ok {x : Lm} (hok : x.Ok) (h : x.Fit) (b : List UInt8) : ({ x with inn := (x.inn.feed b).2 } : Lm).Ok ∧ ({ x with inn := (x.inn.feed b).2 } : Lm).Fit := by
  have e : (x.inn.feed b).2.most = x.inn.most := by unfold St.feed; split <;> rfl
  refine ⟨⟨hok.message, hok.frame, ?_, hok.mm, hok.draw, hok.ctl, hok.rest, hok.tail⟩, ⟨?_, h.rest, h.pong, h.end_, h.ping, h.ops, h.mop⟩⟩
  · show (x.inn.feed b).2.most = _; rw [e]; exact hok.most
  · show (x.inn.feed b).2.part.length ≤ (x.inn.feed b).2.most + 14
    rw [e]; exact feed_part h.part b
theorem feed_ok {x : Lm} (hok : x.Ok) (h : x.Fit) (b : List UInt8) : (x.feed b).1.Ok ∧ (x.feed b).1.Fit := by
  unfold Lm.feed
  split
  · exact ⟨hok, h⟩
  · obtain ⟨q1, q2⟩ := withIn_ok hok h b
    obtain ⟨r1, r2⟩ := feedL_ok (fs := (x.inn.feed b).1) q1 q2
    dsimp only
    split
    · exact ⟨r1, r2⟩
    · exact fail_ok r1 r2 _
theorem frGet_data {p : List UInt8} {most : Nat} : (frGet p most).1.data.length ≤ p.length := by
  cases p with
  | nil => simp [frGet, Fr.none]
  | cons b0 r =>
    rw [frGet_cons]
    cases frBad b0 (r.headD 0) with
    | true => simp [Fr.none]
    | false =>
      simp only [cond_false]
      generalize getLen r = g
      generalize decide (128 ≤ (r.headD 0).toNat) = mk
      unfold frTail
      split
      · simp [Fr.none]
      · split
        · simp [Fr.none]
        · split
          · simp [Fr.none]
          · split
            · simp [Fr.none]
            · generalize (if mk = true then 1 + g.2.1 + 4 else 1 + g.2.1) = at1
              by_cases c6 : r.length + 1 < at1 + g.1
              · rw [if_pos c6]; simp [Fr.none]
              · rw [if_neg c6]; simp only [turn_length, List.length_take, List.length_drop, List.length_cons]; omega
theorem look_data {masked : Bool} {most : Nat} {p : List UInt8} : (lookM masked most p).1.data.length ≤ p.length := by
  unfold lookM
  split
  · split
    · simp [Fr.none]
    · split
      · simp [Fr.none]
      · exact frGet_data
  · exact frGet_data
theorem parse_data {masked : Bool} {most : Nat} (p : List UInt8) : ∀ f ∈ (parse masked most p).1, f.data.length ≤ p.length := by
  intro f hf
  by_cases c0 : (lookM masked most p).2.2 = 0
  · obtain ⟨_, h2, h3⟩ := look_ok c0
    have e1 := parse_eq masked most p
    rw [if_pos c0] at e1
    rw [e1] at hf
    simp only [List.mem_cons] at hf
    rcases hf with rfl | hf
    · exact look_data
    · have := parse_data _ f hf
      rw [List.length_drop] at this; omega
  · have e1 := parse_eq masked most p
    rw [if_neg c0] at e1
    rw [e1] at hf
    split at hf <;> simp at hf
termination_by p.length
decreasing_by
  rw [List.length_drop]; omega
theorem legFeedS {a : Nat} {c : Tapi_Config} {x : Lm} {sl : Sl} {b : List UInt8} (hK : KBig K) (h : x.Fit) (hr : Rd ρ L sl 1 (bl b)) (hn : sl.n = b.length) (hb : b.length ≤ 549755813888) :
    Tri ρ (legI a c x :: L) (leg_Leg_Feed K (some ⟨a, 0, none⟩) sl) (fun r L' => r.n = (x.feed b).2.length ∧ L' = row r 3 (evl (x.feed b).2) :: legI a c (x.feed b).1 :: L) := by
  unfold leg_Leg_Feed
  refine legOpen fun hok hcfg si mi ri tl ct rs htl hct hrs => ?_
  refine Tri.nn (Tri.ldB (Cell.here (i := 21) rfl) ?_)
  refine Tri.val (decide (x.got = true ∨ x.wrong ≠ 0)) ?_ ?_
  · cases hg : x.got with
    | true => simp only [if_true]; exact Tri.ret ⟨by simp, rfl⟩
    | false =>
      simp only [Bool.false_eq_true, if_false]
      exact Tri.nn (Tri.ldI (Cell.here (i := 22) rfl) (Tri.ret ⟨by rw [bneN]; simp, rfl⟩))
  by_cases h0 : x.got = true ∨ x.wrong ≠ 0
  · rw [decide_eq_true h0]
    simp only [if_true]
    have e : x.feed b = (x, []) := by unfold Lm.feed; rw [if_pos h0]
    rw [e]
    refine legClose hok hcfg htl hct hrs (Tri.nilRow (sz := 3) (Tri.ret ⟨rfl, rfl⟩))
  · rw [decide_eq_false h0]
    simp only [Bool.false_eq_true, if_false]
    obtain ⟨q1, q2⟩ := withIn_ok hok h b
    have hmost : x.inn.most ≤ 65536 := by rw [hok.most]; have := hok.message; omega
    have hpl := h.part
    have hlen := feedS_len (masked := x.inn.masked) (most := x.inn.most) (k := (x.inn.part ++ b).length + 1) (p := x.inn.part ++ b) (by omega)
    have hfd : ∀ f ∈ (x.inn.feed b).1, f.data.length ≤ 1099511627776 := by
      intro f hf
      rw [feed_parse] at hf
      split at hf
      · simp at hf
      · have := parse_data _ f hf
        simp at this; omega
    have hfl : (x.inn.feed b).1.length ≤ 1099511627776 := by
      rw [feed_parse]
      split
      · simp
      · show (parse _ _ _).1.length ≤ _
        unfold parse
        simp at hlen ⊢; omega
    have hdef : x.feed b = (if (({ x with inn := (x.inn.feed b).2 } : Lm).feedL (x.inn.feed b).1).2.2 = true ∨ (x.inn.feed b).2.err = 0 then (({ x with inn := (x.inn.feed b).2 } : Lm).feedL (x.inn.feed b).1).1 else (({ x with inn := (x.inn.feed b).2 } : Lm).feedL (x.inn.feed b).1).1.fail (x.inn.feed b).2.err, (({ x with inn := (x.inn.feed b).2 } : Lm).feedL (x.inn.feed b).1).2.1) := by
      conv => lhs; unfold Lm.feed
      rw [if_neg h0]
    rw [hdef]
    refine Tri.nn (Tri.ldP (Cell.here (i := 12) rfl) ?_)
    refine Tri.pick 5 rfl (Tri.bnd (stream_Feed_spec (b := b) hK (hr.tail.tail.tail.tail.tail.tail) hn (by omega)) ?_)
    rintro ⟨x8, x8e⟩ _ ⟨g1, g2, rfl⟩
    dsimp only at g1 g2 ⊢
    subst g1
    refine Tri.order [2, 2, 2, 2, 2, 1, 1] rfl ?_
    refine legClose (x := { x with inn := (x.inn.feed b).2 }) q1 hcfg htl hct hrs ?_
    have hy : ∃ y : Lm, y = { x with inn := (x.inn.feed b).2 } := ⟨_, rfl⟩
    obtain ⟨y, hy⟩ := hy
    rw [← hy] at q1 q2 ⊢
    have hyg : y.got = false ∧ y.wrong = 0 := by
      rw [hy]
      refine ⟨?_, ?_⟩
      · show x.got = false
        cases hg : x.got with
        | false => rfl
        | true => exact absurd (.inl hg) h0
      · show x.wrong = 0
        exact Decidable.byContradiction fun hw => h0 (.inr hw)
    clear hy hdef hlen
    generalize hS : x.inn.feed b = S at *
    obtain ⟨fs, st'⟩ := S
    dsimp only at *
    refine Tri.nilRow (sz := 3) ?_
    refine Tri.bndS (D := fun r L' => (y.feedL fs).2.2 = false ∧ r.n = (y.feedL fs).2.1.length ∧ L' = row r 3 (evl (y.feedL fs).2.1) :: legI a c (y.feedL fs).1 :: L) ?_ ?_
    · refine Tri.loop (μ := fun (s : Sl × Int) => fs.length - s.2.toNat) (I := fun (s : Sl × Int) L' => ∃ (j : Nat) (z : Lm) (es : List Ev), s.2 = j ∧ j ≤ fs.length ∧ z.Ok ∧ z.Fit ∧ z.got = false ∧ z.wrong = 0 ∧ s.1.n = es.length ∧ es.length ≤ j ∧
          y.feedL fs = ((z.feedL (fs.drop j)).1, es ++ (z.feedL (fs.drop j)).2.1, (z.feedL (fs.drop j)).2.2) ∧ L' = row s.1 3 (evl es) :: legI a c z :: row x8 8 (frl fs) :: L) ?_ (by unfold KBig at hK; simp; omega) ?_
      · rintro again ⟨s1, s2⟩ L' ⟨j, z, es, hs2, hj, z1, z2, z3, z4, hs1, hes, hfe, rfl⟩ ih
        dsimp only at hs2 hs1
        subst hs2
        unfold leg_Leg_Feed_l0
        dsimp only
        refine Tri.ite ?_ ?_
        · intro hc
          have hj' : j < fs.length := by simp at hc; omega
          have hdr : fs.drop j = fs[j] :: fs.drop (j + 1) := List.drop_eq_getElem_cons hj'
          have rdF : ∀ {u v : Assn} {L' : As}, Rd ρ (u :: v :: row x8 8 (frl fs) :: L') x8 8 (frl fs) := Rd.row.tail.tail
          refine Tri.ixA j rdF rfl (by omega) (by intro e; have e9 := congrArg List.length e; rw [frl_length, List.length_nil] at e9; omega) fun x67 h67 => ?_
          refine Tri.ldG fs[j].t rfl (h67.cells rdF (by omega) (frl_get fs j hj') rfl) ?_
          rw [frc_zero]
          refine Tri.new fun b69 => ?_
          refine Tri.stB (l := frc fs[j]) (by rfl) (by simp [frc]) rfl ?_
          have e0 : splice (frc Fr.none) 0 (frc fs[j]) = frc fs[j] := rfl
          rw [e0]
          refine Tri.ldG fs[j].t rfl (Cells.here (i := 0) (by simp [Fr.cells, frc]) (by rfl)) (Tri.drop ?_)
          refine Tri.pick 1 rfl (Tri.bnd (legTakeFS hK z2 (hfd _ (List.getElem_mem hj'))) ?_)
          rintro ⟨x71, is⟩ _ ⟨⟨ev, hev, hcase⟩, rfl⟩
          dsimp only at hev hcase ⊢
          subst hev
          obtain ⟨t1, t2⟩ := takeF_ok z1 z2 fs[j]
          rw [hdr] at hfe
          rw [feedL_cons] at hfe
          generalize htk : z.takeF fs[j] = tk at hcase hfe t1 t2 ⊢
          obtain ⟨z', o⟩ := tk
          dsimp only at hcase hfe t1 t2 ⊢
          rw [evc_zero]
          refine Tri.new fun b72 => stEv (e := ev) rfl (evc_len _) ?_
          -- what is told put behind
          refine Tri.bnd (B := fun r L' => r.n = (es ++ o.toList).length ∧ L' = row r 3 (evl (es ++ o.toList)) :: legI a c z' :: row x8 8 (frl fs) :: L) ?_ ?_
          · rcases hcase with ⟨rfl, rfl⟩ | ⟨rfl, rfl⟩
            · simp only [if_true, Option.toList_some]
              refine ldEv ?_
              refine Tri.new fun b77 => ?_
              refine Tri.pick 3 rfl ?_
              refine Tri.appS (new := evc ev) (Rd.pts (o := 0) rfl (by simp [Agg.cells, Ev.t]) rfl) rfl rfl (by simp; omega) fun s' hs' => ?_
              rw [← evl_snoc]
              refine Tri.pick 1 rfl (Tri.drop (Tri.pick 1 rfl (Tri.drop (Tri.ret ⟨by rw [hs', hs1]; simp, rfl⟩))))
            · simp only [Bool.false_eq_true, if_false, Option.toList_none, List.append_nil]
              exact Tri.drop (Tri.pick 1 rfl (Tri.ret ⟨hs1, rfl⟩))
          · rintro s79 _ ⟨hs79, rfl⟩
            have hol : o.toList.length ≤ 1 := by cases o <;> simp
            refine Tri.pick 1 rfl (legOpen fun hok1 hcfg1 si mi ri tl ct rs htl hct hrs => ?_)
            refine Tri.nn (Tri.ldB (Cell.here (i := 21) rfl) ?_)
            refine Tri.val (decide (z'.got = true ∨ z'.wrong ≠ 0)) ?_ ?_
            · cases hg : z'.got with
              | true => simp only [if_true]; exact Tri.ret ⟨by simp, rfl⟩
              | false =>
                simp only [Bool.false_eq_true, if_false]
                exact Tri.nn (Tri.ldI (Cell.here (i := 22) rfl) (Tri.ret ⟨by rw [bneN]; simp, rfl⟩))
            refine legClose hok1 hcfg1 htl hct hrs (Tri.pick 1 rfl ?_)
            by_cases hst : z'.got = true ∨ z'.wrong ≠ 0
            · rw [decide_eq_true hst]
              simp only [if_true]
              rw [if_pos hst] at hfe
              refine Tri.inr ?_
              refine Tri.order [0, 0] rfl (Tri.pick 2 rfl (Tri.drop (Tri.ret ?_)))
              rw [hfe]
              simp only [true_or, if_true]
              exact ⟨hs79, trivial⟩
            · rw [decide_eq_false hst]
              simp only [Bool.false_eq_true, if_false]
              rw [if_neg hst] at hfe
              have hw : IntKind.wrap .i64 ((j : Int) + 1) = ((j + 1 : Nat) : Int) := by rw [w64 (by omega) (by omega)]; omega
              rw [hw]
              refine ih _ _ ⟨j + 1, z', es ++ o.toList, rfl, by omega, t1, t2, ?_, ?_, hs79, by simp; omega, ?_, rfl⟩ (by simp; omega)
              · cases hg : z'.got with
                | false => rfl
                | true => exact absurd (.inl hg) hst
              · exact Decidable.byContradiction fun hw => hst (.inr hw)
              · rw [hfe]; simp
        · intro hc
          have hj' : j = fs.length := by simp at hc; omega
          rw [hj', List.drop_length] at hfe
          simp only [Lm.feedL, List.append_nil] at hfe
          refine Tri.pick 2 rfl (Tri.drop (Tri.ret ?_))
          dsimp only
          rw [hfe]
          exact ⟨rfl, hs1, rfl⟩
      · exact ⟨0, y, [], rfl, by omega, q1, q2, hyg.1, hyg.2, rfl, by simp, by simp, rfl⟩
    · rintro r _ ⟨d1, d2, rfl⟩
      rw [d1]
      by_cases he : st'.err = 0
      · have hd : ((st'.err : Int) != 0) = false := by rw [bneN]; simp [he]
        rw [hd]
        simp only [Bool.false_eq_true, if_false, bnd_ret, he, or_true, if_true]
        exact Tri.ret ⟨d2, rfl⟩
      · have hd : ((st'.err : Int) != 0) = true := by rw [bneN]; simp [he]
        rw [hd]
        obtain ⟨r1, r2⟩ := feedL_ok (fs := fs) q1 q2
        simp only [if_true, bnd_ret, bnd_bnd, bnd_ite, bnd_lt, bnd_ldB, bnd_ldI, bnd_ldS, bnd_ldP, bnd_ldSl, bnd_ldG, bnd_nn, bnd_ixA, bnd_st, bnd_drw, bnd_strOf, bnd_new, bnd_slS, bnd_slA, bnd_slStr, bnd_app, bnd_appS, bnd_appT, bnd_appZ, bnd_chk, bnd_mk, bnd_cpy, bnd_wld, bnd_agr, bnd_bytesOf, bnd_drw2, bnd_mrk, bnd_fail, sumK_inl, sumK_inr, bnd_inr, Bool.false_eq_true, false_or, if_neg he]
        refine Tri.pick 1 rfl (Tri.bnd (legFailS hK r2) ?_)
        rintro _ _ rfl
        exact Tri.pick 1 rfl (Tri.ret ⟨d2, rfl⟩)
end Go.Proofs.YtjdnjlnfcbaokaaGreat

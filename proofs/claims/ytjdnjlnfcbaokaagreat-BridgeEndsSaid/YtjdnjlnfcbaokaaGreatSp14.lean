/-
  SPECS, 14: leg: Free, Send, Ping, Peek, Take, Sent, Got, Wrong, Quiet, Kept. Own work.
-/
import Derived.Test.YtjdnjlnfcbaokaaGreatSp13
set_option linter.unusedVariables false
set_option linter.unusedSimpArgs false
set_option maxRecDepth 20000
namespace Go.Proofs.YtjdnjlnfcbaokaaGreat
open Go Go.Lg
variable {α β σ τ : Type} {ρ : Hp} {L M : As} {K : Nat}

theorem beqN (n : Nat) : ((n : Int) == 0) = decide (n = 0) := by
  rw [Bool.eq_iff_iff]; simp only [beq_iff_eq, decide_eq_true_eq]; omega
theorem isEmptyN {γ : Type} (l : List γ) : decide (l.length = 0) = l.isEmpty := by cases l <;> simp
theorem legFreeS {a : Nat} {c : Tapi_Config} {x : Lm} : Tri ρ (legI a c x :: L) (leg_Leg_Free K (some ⟨a, 0, none⟩)) (fun r L' => r = x.free ∧ L' = legI a c x :: L) := by
  unfold leg_Leg_Free
  refine legOpen fun hok hcfg si mi ri tl ct rs htl hct hrs => ?_
  refine Tri.nn (Tri.ldB (Cell.here (i := 20) rfl) ?_)
  unfold Lm.free
  have fin : ∀ r : Bool, r = (!x.sent && !x.got && x.wrong == 0 && x.rest.isEmpty) → Tri ρ (pts a (legC c x si mi ri tl ct rs) :: ringI ri x.out x.ring :: row tl 1 (bl x.tail) :: row ct 8 (frl x.ctl) :: row rs 8 (frl x.rest) :: streamI si x.inn :: msgI mi x.m :: L)
      (ret r) (fun r L' => r = (!x.sent && !x.got && x.wrong == 0 && x.rest.isEmpty) ∧ L' = legI a c x :: L) := fun r h => legClose hok hcfg htl hct hrs (Tri.ret ⟨h, rfl⟩)
  have e0 : ((x.wrong : Int) == 0) = (x.wrong == 0) := beqI x.wrong 0
  cases h1 : x.sent with
  | true => simp only [Bool.not_true, Bool.false_eq_true, if_false, bnd_ret, bnd_bnd, bnd_ite, bnd_lt, bnd_ldB, bnd_ldI, bnd_ldS, bnd_ldP, bnd_ldSl, bnd_ldG, bnd_nn, bnd_ixA, bnd_st, bnd_drw, bnd_strOf, bnd_new, bnd_slS, bnd_slA, bnd_slStr, bnd_app, bnd_appS, bnd_appT, bnd_appZ, bnd_chk, bnd_mk, bnd_cpy, bnd_wld, bnd_agr, bnd_bytesOf, bnd_drw2, bnd_mrk, bnd_fail, sumK_inl, sumK_inr, bnd_inr]; rw [h1] at fin; exact fin _ (by simp)
  | false =>
    simp only [Bool.not_false, if_true, bnd_ret, bnd_bnd, bnd_ite, bnd_lt, bnd_ldB, bnd_ldI, bnd_ldS, bnd_ldP, bnd_ldSl, bnd_ldG, bnd_nn, bnd_ixA, bnd_st, bnd_drw, bnd_strOf, bnd_new, bnd_slS, bnd_slA, bnd_slStr, bnd_app, bnd_appS, bnd_appT, bnd_appZ, bnd_chk, bnd_mk, bnd_cpy, bnd_wld, bnd_agr, bnd_bytesOf, bnd_drw2, bnd_mrk, bnd_fail, sumK_inl, sumK_inr, bnd_inr]
    refine Tri.nn (Tri.ldB (Cell.here (i := 21) rfl) ?_)
    rw [h1] at fin
    cases h2 : x.got with
    | true => simp only [Bool.not_true, Bool.false_eq_true, if_false, bnd_ret, bnd_bnd, bnd_ite, bnd_lt, bnd_ldB, bnd_ldI, bnd_ldS, bnd_ldP, bnd_ldSl, bnd_ldG, bnd_nn, bnd_ixA, bnd_st, bnd_drw, bnd_strOf, bnd_new, bnd_slS, bnd_slA, bnd_slStr, bnd_app, bnd_appS, bnd_appT, bnd_appZ, bnd_chk, bnd_mk, bnd_cpy, bnd_wld, bnd_agr, bnd_bytesOf, bnd_drw2, bnd_mrk, bnd_fail, sumK_inl, sumK_inr, bnd_inr]; rw [h2] at fin; exact fin _ (by simp)
    | false =>
      simp only [Bool.not_false, if_true, bnd_ret, bnd_bnd, bnd_ite, bnd_lt, bnd_ldB, bnd_ldI, bnd_ldS, bnd_ldP, bnd_ldSl, bnd_ldG, bnd_nn, bnd_ixA, bnd_st, bnd_drw, bnd_strOf, bnd_new, bnd_slS, bnd_slA, bnd_slStr, bnd_app, bnd_appS, bnd_appT, bnd_appZ, bnd_chk, bnd_mk, bnd_cpy, bnd_wld, bnd_agr, bnd_bytesOf, bnd_drw2, bnd_mrk, bnd_fail, sumK_inl, sumK_inr, bnd_inr]
      refine Tri.nn (Tri.ldI (Cell.here (i := 22) rfl) ?_)
      rw [h2] at fin
      rw [e0]
      cases h3 : (x.wrong == 0) with
      | false => simp only [Bool.false_eq_true, if_false, bnd_ret, bnd_bnd, bnd_ite, bnd_lt, bnd_ldB, bnd_ldI, bnd_ldS, bnd_ldP, bnd_ldSl, bnd_ldG, bnd_nn, bnd_ixA, bnd_st, bnd_drw, bnd_strOf, bnd_new, bnd_slS, bnd_slA, bnd_slStr, bnd_app, bnd_appS, bnd_appT, bnd_appZ, bnd_chk, bnd_mk, bnd_cpy, bnd_wld, bnd_agr, bnd_bytesOf, bnd_drw2, bnd_mrk, bnd_fail, sumK_inl, sumK_inr, bnd_inr]; rw [h3] at fin; exact fin _ (by simp)
      | true =>
        simp only [if_true, bnd_ret, bnd_bnd, bnd_ite, bnd_lt, bnd_ldB, bnd_ldI, bnd_ldS, bnd_ldP, bnd_ldSl, bnd_ldG, bnd_nn, bnd_ixA, bnd_st, bnd_drw, bnd_strOf, bnd_new, bnd_slS, bnd_slA, bnd_slStr, bnd_app, bnd_appS, bnd_appT, bnd_appZ, bnd_chk, bnd_mk, bnd_cpy, bnd_wld, bnd_agr, bnd_bytesOf, bnd_drw2, bnd_mrk, bnd_fail, sumK_inl, sumK_inr, bnd_inr]
        refine Tri.nn (Tri.ldSl rs (Cell.here (i := 17) rfl) ?_)
        rw [h3] at fin
        refine fin _ ?_
        rw [beqN, hrs, isEmptyN]; simp
theorem cutF_ok {op : Nat} {d : List UInt8} {most : Nat} (ho : op = 1 ∨ op = 2) (h2 : 0 < most) (h3 : most ≤ 65536) : ∀ f ∈ cutF op d most, okF f := by
  intro f hf
  simp only [cutF, List.mem_map] at hf
  obtain ⟨i, _, rfl⟩ := hf
  have hk : (if i = 0 then op else 0) ≤ 2 := by split <;> omega
  generalize (if i = 0 then op else 0) = o at hk
  refine ⟨?_, by simp; omega, rfl⟩
  match o, hk with
  | 0, _ => simp [formF, knownOp, ctlOp]
  | 1, _ => simp [formF, knownOp, ctlOp]
  | 2, _ => simp [formF, knownOp, ctlOp]
theorem cutF_len (op : Nat) (d : List UInt8) (most : Nat) (h : d.length ≤ 65536) (h3 : most ≤ 65536) : (cutF op d most).length ≤ 131072 := by
  simp only [cutF, List.length_map, List.length_range]
  unfold countF
  have : (d.length + most - 1) / most ≤ d.length + most - 1 := Nat.div_le_self _ _
  omega
theorem send_okE {x : Lm} (hok : x.Ok) (h : x.Fit) {e : Ev} (ho : e.op = 1 ∨ e.op = 2) (hd : e.data.length ≤ x.message) : ({ x with rest := cutF e.op.toNat e.data x.frame } : Lm).Ok ∧ ({ x with rest := cutF e.op.toNat e.data x.frame } : Lm).Fit := by
  have hm := hok.message
  have hf := hok.frame
  refine ⟨⟨hok.message, hok.frame, hok.most, hok.mm, hok.draw, hok.ctl, ?_, hok.tail⟩, ⟨h.part, ?_, h.pong, h.end_, h.ping, h.ops, h.mop⟩⟩
  · exact cutF_ok (by rcases ho with h | h <;> rw [h] <;> simp) hf.1 hf.2
  · exact cutF_len _ _ _ (by omega) hf.2
theorem send_ok {x : Lm} (hok : x.Ok) (h : x.Fit) (e : Ev) : (x.send e).1.Ok ∧ (x.send e).1.Fit := by
  unfold Lm.send
  split
  · rename_i hc
    obtain ⟨q1, q2⟩ := send_okE hok h hc.2.1 hc.2.2
    exact ⟨(move_ok q1).1, q2.move q1⟩
  · exact ⟨hok, h⟩
theorem legSendS {a : Nat} {c : Tapi_Config} {x : Lm} {e : Ev} (hK : KBig K) (h : x.Fit) :
    Tri ρ (legI a c x :: L) (leg_Leg_Send K (some ⟨a, 0, none⟩) e.t) (fun r L' => r = (x.send e).2 ∧ L' = legI a c (x.send e).1 :: L) := by
  unfold leg_Leg_Send
  refine Tri.new fun x1 => ?_
  have hec : Agg.cells e.t = evc e := rfl
  rw [hec]
  -- whether it may be sent
  refine Tri.bnd (B := fun r L' => r = !decide (x.free = true ∧ (e.op = 1 ∨ e.op = 2) ∧ e.data.length ≤ x.message) ∧ L' = legI a c x :: pts x1 (evc e) :: L) ?_ ?_
  · refine Tri.drw (Tri.pick 1 rfl (Tri.bnd legFreeS ?_))
    rintro _ _ ⟨rfl, rfl⟩
    cases hf : x.free with
    | false => simp only [Bool.not_false, if_true]; exact Tri.ret ⟨by simp, rfl⟩
    | true =>
      simp only [Bool.not_true, Bool.false_eq_true, if_false]
      refine Tri.ldI (Cell.here (i := 0) rfl).tail ?_
      have last : (e.op = 1 ∨ e.op = 2) → Tri ρ (legI a c x :: pts x1 (evc e) :: L)
          (ldS ((⟨x1, 0, none⟩ : Addr).add 2) fun x14 => nn (some (⟨a, 0, none⟩ : Addr)) fun x15 => ldI .i64 ((x15.add 0).add 3) fun x16 => ret ((decide (x16 < (x14.size : Int)))))
          (fun r L' => r = !decide (True ∧ (e.op = 1 ∨ e.op = 2) ∧ e.data.length ≤ x.message) ∧ L' = legI a c x :: pts x1 (evc e) :: L) := by
        intro ho
        refine Tri.ldS (Cell.here (i := 2) rfl).tail ?_
        refine legOpen fun hok hcfg si mi ri tl ct rs htl hct hrs => ?_
        refine Tri.nn (Tri.ldI (v := c.Message) (Cell.here (i := 3) rfl) ?_)
        refine legClose hok hcfg htl hct hrs (Tri.ret ⟨?_, rfl⟩)
        rw [hcfg.1, ba_size, Bool.eq_iff_iff]
        simp [ho]
      by_cases h1 : e.op = 1
      · have e1 : (e.op != 1) = false := by rw [h1]; rfl
        rw [e1]
        simp only [Bool.false_eq_true, if_false]
        exact last (.inl h1)
      · have e1 : (e.op != 1) = true := by simp [h1]
        rw [e1]
        simp only [if_true]
        refine Tri.ldI (Cell.here (i := 0) rfl).tail ?_
        by_cases h2 : e.op = 2
        · have e2 : (e.op != 2) = false := by rw [h2]; rfl
          rw [e2]
          simp only [Bool.false_eq_true, if_false]
          exact last (.inr h2)
        · have e2 : (e.op != 2) = true := by simp [h2]
          rw [e2]
          simp only [if_true]
          exact Tri.ret ⟨by simp [h1, h2], rfl⟩
  · rintro _ _ ⟨rfl, rfl⟩
    by_cases hc : x.free = true ∧ (e.op = 1 ∨ e.op = 2) ∧ e.data.length ≤ x.message
    · rw [decide_eq_true hc]
      simp only [Bool.not_true, Bool.false_eq_true, if_false]
      have hs : x.send e = (({ x with rest := cutF e.op.toNat e.data x.frame } : Lm).move, true) := by unfold Lm.send; rw [if_pos hc]
      rw [hs]
      refine Tri.drw (Tri.ldI (Cell.here (i := 0) rfl).tail (Tri.ldS (Cell.here (i := 2) rfl).tail ?_))
      refine legOpen fun hok hcfg si mi ri tl ct rs htl hct hrs => ?_
      obtain ⟨q1, q2⟩ := send_okE hok h hc.2.1 hc.2.2
      have hm := hok.message
      have hf := hok.frame
      refine Tri.nn (Tri.ldI (v := c.Frame) (Cell.here (i := 4) rfl) ?_)
      rw [hcfg.2.1]
      have eo : e.op = ((e.op.toNat : Nat) : Int) := by rcases hc.2.1 with h | h <;> rw [h] <;> rfl
      have hs2 : e.data.length ≤ x.message := hc.2.2
      have ho' : e.op.toNat = 1 ∨ e.op.toNat = 2 := by rcases hc.2.1 with h | h <;> rw [h] <;> simp
      generalize hon : e.op.toNat = n at *
      rw [eo]
      refine Tri.bnd (cut_Frames_spec hK ho' (by omega) hf.1 hf.2) ?_
      rintro ⟨x25, xe⟩ _ ⟨g1, g2, rfl⟩
      dsimp only at g1 g2 ⊢
      refine Tri.nn (Tri.pick 1 rfl ?_)
      refine Tri.stB (i := 17) (l := [.slice x25.a x25.n x25.c]) (by rfl) (by simp [legC]) rfl ?_
      have e2 : splice (legC c x si mi ri tl ct rs) 17 [.slice x25.a x25.n x25.c] = legC c { x with rest := cutF n e.data x.frame } si mi ri tl ct x25 := rfl
      rw [e2]
      refine Tri.order [5] rfl (Tri.drop (Tri.order [0, 1, 1, 1, 0] rfl ?_))
      refine moveC (y := { x with rest := cutF n e.data x.frame }) hK q1 q2 hcfg htl hct g2 ?_
      exact Tri.pick 1 rfl (Tri.drop (Tri.ret ⟨rfl, rfl⟩))
    · rw [decide_eq_false hc]
      simp only [Bool.not_false, if_true]
      have hs : x.send e = (x, false) := by unfold Lm.send; rw [if_neg hc]
      rw [hs]
      exact Tri.pick 1 rfl (Tri.drop (Tri.ret ⟨rfl, rfl⟩))
theorem ping_ok {x : Lm} (hok : x.Ok) (h : x.Fit) (h9 : cnt 9 x.ctl < 549755813888) (d : List UInt8) : (x.ping d).1.Ok ∧ (x.ping d).1.Fit := by
  unfold Lm.ping
  split
  · exact ⟨hok, h⟩
  · rename_i hn
    have hd : d.length ≤ 125 := by
      have : ¬ 125 < d.length := fun h => hn (.inr (.inr (.inr h)))
      omega
    obtain ⟨q1, q2⟩ := addC_ok hok h (ctlF_ok (op := 9) (.inr (.inl rfl)) hd) (.inr (.inl rfl)) (by simp [ctlF]) (by simp [ctlF]) (fun _ => h9)
    exact ⟨(move_ok q1).1, q2.move q1⟩
theorem legPingS {a : Nat} {c : Tapi_Config} {x : Lm} {d : List UInt8} (hK : KBig K) (h : x.Fit) (h9 : cnt 9 x.ctl < 549755813888) :
    Tri ρ (legI a c x :: L) (leg_Leg_Ping K (some ⟨a, 0, none⟩) (ba d)) (fun r L' => r = (x.ping d).2 ∧ L' = legI a c (x.ping d).1 :: L) := by
  unfold leg_Leg_Ping
  refine legOpen fun hok hcfg si mi ri tl ct rs htl hct hrs => ?_
  refine Tri.nn (Tri.ldB (Cell.here (i := 20) rfl) ?_)
  refine Tri.val (decide (x.sent = true ∨ x.got = true)) ?_ ?_
  · cases h1 : x.sent with
    | true => simp only [if_true]; exact Tri.ret ⟨by simp, rfl⟩
    | false =>
      simp only [Bool.false_eq_true, if_false]
      exact Tri.nn (Tri.ldB (Cell.here (i := 21) rfl) (Tri.ret ⟨by simp, rfl⟩))
  refine Tri.val (decide (x.sent = true ∨ x.got = true ∨ x.wrong ≠ 0)) ?_ ?_
  · by_cases h1 : x.sent = true ∨ x.got = true
    · rw [decide_eq_true h1]
      simp only [if_true]
      exact Tri.ret ⟨by rcases h1 with h | h <;> simp [h], rfl⟩
    · rw [decide_eq_false h1]
      simp only [Bool.false_eq_true, if_false]
      refine Tri.nn (Tri.ldI (Cell.here (i := 22) rfl) (Tri.ret ⟨?_, rfl⟩))
      rw [bneN, Bool.eq_iff_iff]
      simp only [decide_eq_true_eq]
      constructor
      · intro h; exact .inr (.inr h)
      · rintro (h | h | h)
        · exact absurd (.inl h) h1
        · exact absurd (.inr h) h1
        · exact h
  refine Tri.val (decide (x.sent = true ∨ x.got = true ∨ x.wrong ≠ 0 ∨ 125 < d.length)) ?_ ?_
  · by_cases h1 : x.sent = true ∨ x.got = true ∨ x.wrong ≠ 0
    · rw [decide_eq_true h1]
      simp only [if_true]
      exact Tri.ret ⟨by rcases h1 with h | h | h <;> simp [h], rfl⟩
    · rw [decide_eq_false h1]
      simp only [Bool.false_eq_true, if_false]
      refine Tri.ret ⟨?_, rfl⟩
      rw [ba_size, Bool.eq_iff_iff]
      simp only [decide_eq_true_eq]
      constructor
      · intro h; exact .inr (.inr (.inr (by omega)))
      · rintro (h | h | h | h)
        · exact absurd (.inl h) h1
        · exact absurd (.inr (.inl h)) h1
        · exact absurd (.inr (.inr h)) h1
        · omega
  by_cases hn : x.sent = true ∨ x.got = true ∨ x.wrong ≠ 0 ∨ 125 < d.length
  · rw [decide_eq_true hn]
    simp only [if_true]
    have hp : x.ping d = (x, false) := by unfold Lm.ping; rw [if_pos hn]
    rw [hp]
    exact legClose hok hcfg htl hct hrs (Tri.ret ⟨rfl, rfl⟩)
  · rw [decide_eq_false hn]
    simp only [Bool.false_eq_true, if_false]
    have hp : x.ping d = (x.addC (ctlF 9 d), true) := by unfold Lm.ping; rw [if_neg hn]
    rw [hp]
    have hd : d.length ≤ 125 := by
      have : ¬ 125 < d.length := fun h => hn (.inr (.inr (.inr h)))
      omega
    obtain ⟨q1, q2⟩ := addC_ok hok h (ctlF_ok (op := 9) (.inr (.inl rfl)) hd) (.inr (.inl rfl)) (by simp [ctlF]) (by simp [ctlF]) (fun _ => h9)
    refine Tri.nn (Tri.ldSl ct (Cell.here (i := 16) rfl) ?_)
    exact addC_spec (fr := ctlF 9 d) rfl hK hok h hcfg q1 q2 htl hct hrs (Tri.ret ⟨rfl, rfl⟩)
/-! ### Peek, Take, .. -/
theorem legPeekS {a : Nat} {c : Tapi_Config} {x : Lm} {n : Int} (hn : -9223372036854775808 ≤ n) :
    Tri ρ (legI a c x :: L) (leg_Leg_Peek K (some ⟨a, 0, none⟩) n) (fun r L' => r.n = (x.peek n).length ∧ L' = row r 1 (bl (x.peek n)) :: legI a c x :: L) := by
  unfold leg_Leg_Peek
  refine legOpen fun hok hcfg si mi ri tl ct rs htl hct hrs => ?_
  refine Tri.nn (Tri.ldP (Cell.here (i := 14) rfl) ?_)
  refine Tri.pick 1 rfl (Tri.bnd (ring_Peek_spec hn) ?_)
  rintro r _ ⟨h1, rfl⟩
  refine Tri.order [2, 1, 1, 1, 1, 1, 1] rfl ?_
  exact legClose hok hcfg htl hct hrs (Tri.pick 1 rfl (Tri.ret ⟨h1, rfl⟩))
theorem out_ok {x : Lm} (hok : x.Ok) (h : x.Fit) (n : Int) : (x.out' n).Ok ∧ (x.out' n).Fit := by
  have q1 : ({ x with ring := x.ring.drop n.toNat } : Lm).Ok := ⟨hok.message, hok.frame, hok.most, hok.mm, hok.draw, hok.ctl, hok.rest, hok.tail⟩
  have q2 : ({ x with ring := x.ring.drop n.toNat } : Lm).Fit := ⟨h.part, h.rest, h.pong, h.end_, h.ping, h.ops, h.mop⟩
  exact ⟨(move_ok q1).1, q2.move q1⟩
theorem legTakeS {a : Nat} {c : Tapi_Config} {x : Lm} {n : Int} (hK : KBig K) (h : x.Fit) (hn : -9223372036854775808 ≤ n) :
    Tri ρ (legI a c x :: L) (leg_Leg_Take K (some ⟨a, 0, none⟩) n) (fun r L' => r.n = (x.peek n).length ∧ L' = row r 1 (bl (x.peek n)) :: legI a c (x.out' n) :: L) := by
  unfold leg_Leg_Take
  refine legOpen fun hok hcfg si mi ri tl ct rs htl hct hrs => ?_
  refine Tri.nn (Tri.ldP (Cell.here (i := 14) rfl) ?_)
  refine Tri.pick 1 rfl (Tri.bnd (ring_Take_spec hn) ?_)
  rintro r _ ⟨h1, rfl⟩
  have q1 : ({ x with ring := x.ring.drop n.toNat } : Lm).Ok := ⟨hok.message, hok.frame, hok.most, hok.mm, hok.draw, hok.ctl, hok.rest, hok.tail⟩
  have q2 : ({ x with ring := x.ring.drop n.toNat } : Lm).Fit := ⟨h.part, h.rest, h.pong, h.end_, h.ping, h.ops, h.mop⟩
  have e2 : legC c x si mi ri tl ct rs = legC c { x with ring := x.ring.drop n.toNat } si mi ri tl ct rs := rfl
  rw [e2]
  refine Tri.order [2, 0, 1, 1, 1, 1, 1] rfl ?_
  refine moveC (y := { x with ring := x.ring.drop n.toNat }) hK q1 q2 hcfg htl hct hrs ?_
  exact Tri.pick 1 rfl (Tri.ret ⟨h1, rfl⟩)
theorem legSentS {a : Nat} {c : Tapi_Config} {x : Lm} : Tri ρ (legI a c x :: L) (leg_Leg_Sent K (some ⟨a, 0, none⟩)) (fun r L' => r = x.sent ∧ L' = legI a c x :: L) := by
  unfold leg_Leg_Sent
  refine legOpen fun hok hcfg si mi ri tl ct rs htl hct hrs => ?_
  exact Tri.nn (Tri.ldB (Cell.here (i := 20) rfl) (legClose hok hcfg htl hct hrs (Tri.ret ⟨rfl, rfl⟩)))
theorem legGotS {a : Nat} {c : Tapi_Config} {x : Lm} : Tri ρ (legI a c x :: L) (leg_Leg_Got K (some ⟨a, 0, none⟩)) (fun r L' => r = x.got ∧ L' = legI a c x :: L) := by
  unfold leg_Leg_Got
  refine legOpen fun hok hcfg si mi ri tl ct rs htl hct hrs => ?_
  exact Tri.nn (Tri.ldB (Cell.here (i := 21) rfl) (legClose hok hcfg htl hct hrs (Tri.ret ⟨rfl, rfl⟩)))
theorem legWrongS {a : Nat} {c : Tapi_Config} {x : Lm} : Tri ρ (legI a c x :: L) (leg_Leg_Wrong K (some ⟨a, 0, none⟩)) (fun r L' => r = (x.wrong : Int) ∧ L' = legI a c x :: L) := by
  unfold leg_Leg_Wrong
  refine legOpen fun hok hcfg si mi ri tl ct rs htl hct hrs => ?_
  exact Tri.nn (Tri.ldI (Cell.here (i := 22) rfl) (legClose hok hcfg htl hct hrs (Tri.ret ⟨rfl, rfl⟩)))
theorem legQuietS {a : Nat} {c : Tapi_Config} {x : Lm} : Tri ρ (legI a c x :: L) (leg_Leg_Quiet K (some ⟨a, 0, none⟩)) (fun r L' => r = x.quiet ∧ L' = legI a c x :: L) := by
  unfold leg_Leg_Quiet
  refine legOpen fun hok hcfg si mi ri tl ct rs htl hct hrs => ?_
  refine Tri.nn (Tri.ldP (Cell.here (i := 14) rfl) ?_)
  refine Tri.pick 1 rfl (Tri.bnd ring_Len_spec ?_)
  rintro _ _ ⟨rfl, rfl⟩
  refine Tri.pick 1 rfl ?_
  rw [beqN, isEmptyN]
  have fin : ∀ r : Bool, r = x.quiet → Tri ρ (pts a (legC c x si mi ri tl ct rs) :: ringI ri x.out x.ring :: row tl 1 (bl x.tail) :: row ct 8 (frl x.ctl) :: row rs 8 (frl x.rest) :: streamI si x.inn :: msgI mi x.m :: L)
      (ret r) (fun r L' => r = x.quiet ∧ L' = legI a c x :: L) := fun r h => legClose hok hcfg htl hct hrs (Tri.ret ⟨h, rfl⟩)
  cases h1 : x.ring.isEmpty with
  | false => simp only [Bool.false_eq_true, if_false, bnd_ret, bnd_bnd, bnd_ite, bnd_lt, bnd_ldB, bnd_ldI, bnd_ldS, bnd_ldP, bnd_ldSl, bnd_ldG, bnd_nn, bnd_ixA, bnd_st, bnd_drw, bnd_strOf, bnd_new, bnd_slS, bnd_slA, bnd_slStr, bnd_app, bnd_appS, bnd_appT, bnd_appZ, bnd_chk, bnd_mk, bnd_cpy, bnd_wld, bnd_agr, bnd_bytesOf, bnd_drw2, bnd_mrk, bnd_fail, sumK_inl, sumK_inr, bnd_inr]; exact fin _ (by simp [Lm.quiet, h1])
  | true =>
    simp only [if_true, bnd_ret, bnd_bnd, bnd_ite, bnd_lt, bnd_ldB, bnd_ldI, bnd_ldS, bnd_ldP, bnd_ldSl, bnd_ldG, bnd_nn, bnd_ixA, bnd_st, bnd_drw, bnd_strOf, bnd_new, bnd_slS, bnd_slA, bnd_slStr, bnd_app, bnd_appS, bnd_appT, bnd_appZ, bnd_chk, bnd_mk, bnd_cpy, bnd_wld, bnd_agr, bnd_bytesOf, bnd_drw2, bnd_mrk, bnd_fail, sumK_inl, sumK_inr, bnd_inr]
    refine Tri.nn (Tri.ldSl tl (Cell.here (i := 15) rfl) ?_)
    rw [beqN, htl, isEmptyN]
    cases h2 : x.tail.isEmpty with
    | false => simp only [Bool.false_eq_true, if_false, bnd_ret, bnd_bnd, bnd_ite, bnd_lt, bnd_ldB, bnd_ldI, bnd_ldS, bnd_ldP, bnd_ldSl, bnd_ldG, bnd_nn, bnd_ixA, bnd_st, bnd_drw, bnd_strOf, bnd_new, bnd_slS, bnd_slA, bnd_slStr, bnd_app, bnd_appS, bnd_appT, bnd_appZ, bnd_chk, bnd_mk, bnd_cpy, bnd_wld, bnd_agr, bnd_bytesOf, bnd_drw2, bnd_mrk, bnd_fail, sumK_inl, sumK_inr, bnd_inr]; exact fin _ (by simp [Lm.quiet, h1, h2])
    | true =>
      simp only [if_true, bnd_ret, bnd_bnd, bnd_ite, bnd_lt, bnd_ldB, bnd_ldI, bnd_ldS, bnd_ldP, bnd_ldSl, bnd_ldG, bnd_nn, bnd_ixA, bnd_st, bnd_drw, bnd_strOf, bnd_new, bnd_slS, bnd_slA, bnd_slStr, bnd_app, bnd_appS, bnd_appT, bnd_appZ, bnd_chk, bnd_mk, bnd_cpy, bnd_wld, bnd_agr, bnd_bytesOf, bnd_drw2, bnd_mrk, bnd_fail, sumK_inl, sumK_inr, bnd_inr]
      refine Tri.nn (Tri.ldSl ct (Cell.here (i := 16) rfl) ?_)
      rw [beqN, hct, isEmptyN]
      cases h3 : x.ctl.isEmpty with
      | false => simp only [Bool.false_eq_true, if_false, bnd_ret, bnd_bnd, bnd_ite, bnd_lt, bnd_ldB, bnd_ldI, bnd_ldS, bnd_ldP, bnd_ldSl, bnd_ldG, bnd_nn, bnd_ixA, bnd_st, bnd_drw, bnd_strOf, bnd_new, bnd_slS, bnd_slA, bnd_slStr, bnd_app, bnd_appS, bnd_appT, bnd_appZ, bnd_chk, bnd_mk, bnd_cpy, bnd_wld, bnd_agr, bnd_bytesOf, bnd_drw2, bnd_mrk, bnd_fail, sumK_inl, sumK_inr, bnd_inr]; exact fin _ (by simp [Lm.quiet, h1, h2, h3])
      | true =>
        simp only [if_true, bnd_ret, bnd_bnd, bnd_ite, bnd_lt, bnd_ldB, bnd_ldI, bnd_ldS, bnd_ldP, bnd_ldSl, bnd_ldG, bnd_nn, bnd_ixA, bnd_st, bnd_drw, bnd_strOf, bnd_new, bnd_slS, bnd_slA, bnd_slStr, bnd_app, bnd_appS, bnd_appT, bnd_appZ, bnd_chk, bnd_mk, bnd_cpy, bnd_wld, bnd_agr, bnd_bytesOf, bnd_drw2, bnd_mrk, bnd_fail, sumK_inl, sumK_inr, bnd_inr]
        refine Tri.nn (Tri.ldSl rs (Cell.here (i := 17) rfl) ?_)
        rw [beqN, hrs, isEmptyN]
        exact fin _ (by simp [Lm.quiet, h1, h2, h3])
theorem legKeptS {a : Nat} {c : Tapi_Config} {x : Lm} (h : x.Fit) : Tri ρ (legI a c x :: L) (leg_Leg_Kept K (some ⟨a, 0, none⟩)) (fun r L' => x.m.ok ∧ r = (x.kept : Int) ∧ L' = legI a c x :: L) := by
  unfold leg_Leg_Kept
  refine legOpen fun hok hcfg si mi ri tl ct rs htl hct hrs => ?_
  have c13 : ∀ {L' : As}, Cell ρ (pts a (legC c x si mi ri tl ct rs) :: L') ⟨a, 13, none⟩ (.pointer (some ⟨mi, 0, none⟩)) := Cell.here (i := 13) rfl
  have e13 : (⟨a, 0, none⟩ : Addr).add 13 = ⟨a, 13, none⟩ := rfl
  refine Tri.drw (Tri.nn (Tri.ldP (Cell.here (i := 12) rfl) (Tri.nn ?_)))
  rw [e13]
  refine Tri.wld1 c13 fun w5 h5 => Tri.ldP c13 ?_
  refine Tri.pick 5 rfl (Tri.bnd spart_spec ?_)
  rintro _ _ ⟨rfl, rfl⟩
  refine Tri.agr1 h5 c13.tail ?_
  refine Tri.pick 6 rfl (msgOpen fun hm p t hp => ?_)
  refine msgClose hm ?_
  refine Tri.bnd mpart_spec ?_
  rintro _ _ ⟨rfl, rfl⟩
  have h1 := h.part
  have h2 : x.inn.most ≤ 65536 := by rw [hok.most]; have := hok.message; omega
  have h3 := hm.2.2.1
  have h4 := hm.2.1
  rw [w64 (by omega) (by omega)]
  refine Tri.lt (Tri.order [2, 2, 2, 2, 2, 1, 0] rfl ?_)
  exact legClose hok hcfg htl hct hrs (Tri.ret ⟨hm, by simp [Lm.kept], rfl⟩)
end Go.Proofs.YtjdnjlnfcbaokaaGreat

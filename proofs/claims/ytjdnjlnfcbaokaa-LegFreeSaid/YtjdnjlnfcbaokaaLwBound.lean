/-
  LAW LegBound, over its spec. Own work.
-/
import Derived.Test.YtjdnjlnfcbaokaaSp17
import Derived.Test.YtjdnjlnfcbaokaaJn
set_option linter.unusedVariables false
set_option linter.unusedSimpArgs false
set_option maxRecDepth 20000
namespace Go.Proofs.Ytjdnjlnfcbaokaa
open Go Go.Lg
variable {α β σ τ : Type} {ρ : Hp} {L M : As} {K : Nat}

def actl (acts : List Tref16_Act) : List Value := acts.flatMap Agg.cells
theorem actl_length (acts : List Tref16_Act) : (actl acts).length = acts.length * 5 := by
  induction acts with
  | nil => rfl
  | cons e es ih => simp only [actl, List.flatMap_cons, List.length_append, List.length_cons] at ih ⊢; rw [ih]; simp [Agg.cells]; omega
theorem actl_get (acts : List Tref16_Act) (j : Nat) (h : j < acts.length) : ((actl acts).drop (j * 5)).take 5 = Agg.cells acts[j] := by
  induction acts generalizing j with
  | nil => simp at h
  | cons f fs ih =>
    have e : actl (f :: fs) = Agg.cells f ++ actl fs := by simp [actl]
    rw [e]
    cases j with
    | zero => simp [Agg.cells]
    | succ j =>
      have e2 : (j + 1) * 5 = (Agg.cells f).length + j * 5 := by simp [Agg.cells]; omega
      rw [e2, List.drop_length_add_append]
      exact ih j (by simpa using h)
def actZ : List Value := [.int .i64 (0 : Int), .int .i64 (0 : Int), .int .i64 (0 : Int), .int .i64 (0 : Int), .string (ByteArray.mk #[])]
def actOk (x : Tref16_Act) : Prop := (Lit.int .i64 x.Kind).wf = true ∧ (Lit.int .i64 x.Op).wf = true ∧ (Lit.int .i64 x.Code).wf = true ∧ (Lit.int .i64 x.N).wf = true ∧ x.S.size ≤ maxLen
theorem wf64 {n : Int} (h : (Lit.int .i64 n).wf = true) : -9223372036854775808 ≤ n ∧ n ≤ 9223372036854775807 := by
  have h1 : IntKind.i64.min = -9223372036854775808 := by decide
  have h2 : IntKind.i64.max = 9223372036854775807 := by decide
  simp only [Lit.wf, Bool.and_eq_true, decide_eq_true_eq, h1, h2] at h
  exact h
theorem few_spec {t : Tref16_Act} : Tri ρ L (law16_few K t) (fun r L' => r = decide (t.S.size ≤ 300) ∧ L' = L) := by
  unfold law16_few
  refine Tri.new fun x1 => Tri.ldS (v := t.S) (Cell.here (i := 4) rfl) (Tri.lt (Tri.drop (Tri.ret ⟨?_, rfl⟩)))
  rw [Bool.eq_iff_iff]; simp only [decide_eq_true_eq]; omega
/-- one act, as the statements without the document's side do it -/
theorem play_spec {a x6 : Nat} {c : Tapi_Config} {x : Lm} {t : Tref16_Act} {e : TypeId} (hK : KBig K) (h : x.Fit) (h9 : cnt 9 x.ctl < 549755813888) (ht : actOk t) (hs : t.S.size ≤ 300) :
    Tri ρ (legI a c x :: pts x6 (Agg.cells t) :: L)
      (if (t.Kind == (0 : Int)) = true then
          ldS ((⟨x6, 0, none⟩ : Addr).add 4) fun x228 =>
          bytesOf e x228 fun x229 =>
          bnd (leg_Leg_Feed K (some ⟨a, 0, none⟩) x229) fun x230 =>
          ret ()
        else
          lt (t.Kind == (1 : Int)) fun x231 =>
          if x231 = true then
            ldI .i64 ((⟨x6, 0, none⟩ : Addr).add 1) fun x232 =>
            ldS ((⟨x6, 0, none⟩ : Addr).add 4) fun x233 =>
            bnd (leg_Leg_Send K (some ⟨a, 0, none⟩) (Tapi_Event.mk x232 (0 : Int) x233)) fun x234 =>
            ret ()
          else
            lt (t.Kind == (2 : Int)) fun x235 =>
            if x235 = true then
              ldS ((⟨x6, 0, none⟩ : Addr).add 4) fun x236 =>
              bnd (leg_Leg_Ping K (some ⟨a, 0, none⟩) x236) fun x237 =>
              ret ()
            else
              lt (t.Kind == (3 : Int)) fun x238 =>
              if x238 = true then
                ldI .i64 ((⟨x6, 0, none⟩ : Addr).add 2) fun x239 =>
                ldS ((⟨x6, 0, none⟩ : Addr).add 4) fun x240 =>
                bnd (leg_Leg_Close K (some ⟨a, 0, none⟩) x239 x240) fun x241 =>
                ret ()
              else
                lt (t.Kind == (4 : Int)) fun x242 =>
                if x242 = true then
                  ldI .i64 ((⟨x6, 0, none⟩ : Addr).add 3) fun x243 =>
                  bnd (leg_Leg_Take K (some ⟨a, 0, none⟩) x243) fun x244 =>
                  ret ()
                else
                  ret () : G Unit)
      (fun _ L' => L' = legI a c (x.act t.Kind t.Op t.Code t.N t.S.data.toList) :: pts x6 (Agg.cells t) :: L) := by
  have cl : t.S.data.toList.length = t.S.size := by simp
  have cK : ∀ {A : Assn} {L' : As}, Cell ρ (A :: pts x6 (Agg.cells t) :: L') ⟨x6, 0, none⟩ (.int .i64 t.Kind) := (Cell.here (i := 0) rfl).tail
  have cO : ∀ {A : Assn} {L' : As}, Cell ρ (A :: pts x6 (Agg.cells t) :: L') ⟨x6, 1, none⟩ (.int .i64 t.Op) := (Cell.here (i := 1) rfl).tail
  have cC : ∀ {A : Assn} {L' : As}, Cell ρ (A :: pts x6 (Agg.cells t) :: L') ⟨x6, 2, none⟩ (.int .i64 t.Code) := (Cell.here (i := 2) rfl).tail
  have cN : ∀ {A : Assn} {L' : As}, Cell ρ (A :: pts x6 (Agg.cells t) :: L') ⟨x6, 3, none⟩ (.int .i64 t.N) := (Cell.here (i := 3) rfl).tail
  have cS : ∀ {A : Assn} {L' : As}, Cell ρ (A :: pts x6 (Agg.cells t) :: L') ⟨x6, 4, none⟩ (.string t.S) := (Cell.here (i := 4) rfl).tail
  by_cases k0 : t.Kind = 0
  · rw [k0]
    simp only [beq_self_eq_true, if_true, Lm.act]
    refine Tri.ldS cS (Tri.bytesOf fun s' hs' _ => ?_)
    refine Tri.pick 1 rfl (Tri.bnd (legFeedS (b := t.S.data.toList) hK h (by rw [← bytes_bl]; exact Rd.row) (by rw [hs', cl]) (by rw [cl]; omega)) ?_)
    rintro x230 _ ⟨_, rfl⟩
    exact Tri.drop (Tri.pick 1 rfl (Tri.drop (Tri.ret rfl)))
  · have b0 : (t.Kind == 0) = false := by simp [k0]
    rw [b0]
    simp only [Bool.false_eq_true, if_false]
    refine Tri.lt ?_
    by_cases k1 : t.Kind = 1
    · rw [k1]
      simp only [beq_self_eq_true, if_true]
      refine Tri.ldI cO (Tri.ldS cS ?_)
      have et : Tapi_Event.mk t.Op (0 : Int) t.S = (⟨t.Op, 0, t.S.data.toList⟩ : Ev).t := by simp only [Ev.t, ba_data]
      rw [et]
      refine Tri.bnd (legSendS hK h) ?_
      rintro _ _ ⟨rfl, rfl⟩
      exact Tri.ret rfl
    · have b1 : (t.Kind == 1) = false := by simp [k1]
      rw [b1]
      simp only [Bool.false_eq_true, if_false]
      refine Tri.lt ?_
      by_cases k2 : t.Kind = 2
      · rw [k2]
        simp only [beq_self_eq_true, if_true]
        refine Tri.ldS cS ?_
        rw [← ba_data t.S]
        refine Tri.bnd (legPingS hK h h9) ?_
        rintro _ _ ⟨rfl, rfl⟩
        rw [ba_data]
        exact Tri.ret rfl
      · have b2 : (t.Kind == 2) = false := by simp [k2]
        rw [b2]
        simp only [Bool.false_eq_true, if_false]
        refine Tri.lt ?_
        by_cases k3 : t.Kind = 3
        · rw [k3]
          simp only [beq_self_eq_true, if_true]
          refine Tri.ldI cC (Tri.ldS cS ?_)
          rw [← ba_data t.S]
          refine Tri.bnd (legCloseS hK h (by rw [cl]; omega)) ?_
          rintro _ _ ⟨rfl, rfl⟩
          rw [ba_data]
          exact Tri.ret rfl
        · have b3 : (t.Kind == 3) = false := by simp [k3]
          rw [b3]
          simp only [Bool.false_eq_true, if_false]
          refine Tri.lt ?_
          by_cases k4 : t.Kind = 4
          · rw [k4]
            simp only [beq_self_eq_true, if_true]
            refine Tri.ldI cN ?_
            refine Tri.bnd (legTakeS hK h (wf64 ht.2.2.2.1).1) ?_
            rintro x244 _ ⟨_, rfl⟩
            exact Tri.drop (Tri.ret rfl)
          · have b4 : (t.Kind == 4) = false := by simp [k4]
            rw [b4]
            simp only [Bool.false_eq_true, if_false]
            refine Tri.ret ?_
            simp only [Lm.act, if_neg k0, if_neg k1, if_neg k2, if_neg k3, if_neg k4]
theorem kept_bound {c : Tapi_Config} {x : Lm} (h : LegAt c x) (hf : x.Fit) : x.kept ≤ x.message + (max x.message 125) + 14 := by
  have h1 := hf.part
  rw [h.ok.most] at h1
  have h2 := h.m.2.2.1
  rw [h.ok.mm] at h2
  unfold Lm.kept; omega
theorem legBound_spec {k : A3u8} {m s o : Nat} {masked : Bool} {draw : Nat} {sl : Sl} {acts : List Tref16_Act} (hK : KBig K) (e0 : k.e0 = (m : Int)) (e1 : k.e1 = (s : Int)) (e2 : k.e2 = (o : Int)) (hm : m < 256) (hs : s < 256) (ho : o < 256) (hd : draw < 4294967296)
    (hr : Rd ρ [] sl 5 (actl acts)) (hn : sl.n = acts.length) (hw : ∀ t ∈ acts, actOk t) : Tri ρ [] (law16_LegBound K k masked draw sl) (fun r _ => r = true) := by
  unfold law16_LegBound
  refine Tri.new fun x1 => ?_
  refine Tri.ldI (v := k.e0) (Cell.here (i := 0) rfl) (Tri.ldI (v := k.e1) (Cell.here (i := 1) rfl) (Tri.ldI (v := k.e2) (Cell.here (i := 2) rfl) ?_))
  rw [e0, e1, e2]
  refine Tri.drop (Tri.bnd (config_spec hm hs ho) ?_)
  rintro _ _ ⟨b, rfl, rfl⟩
  refine Tri.new fun x6 => ?_
  refine Tri.stB (l := Agg.cells (cfg0 b m s o)) (by rfl) (by simp [Agg.cells]) rfl ?_
  have es : ∀ cs : List Value, cs.length = 12 → splice cs 0 (Agg.cells (cfg0 b m s o)) = Agg.cells (cfg0 b m s o) := by
    intro cs hc
    unfold splice
    rw [List.take_zero, List.nil_append, List.drop_eq_nil_of_le (by rw [hc]; simp [Agg.cells]), List.append_nil]
  rw [es _ rfl]
  refine Tri.ldG (cfg0 b m s o) rfl (Cells.here (i := 0) (by simp [Agg.cells]) rfl) ?_
  refine Tri.pick 1 rfl (Tri.bnd (new0_spec hK hm hs ho hd) ?_)
  rintro _ _ ⟨a, rfl, rfl⟩
  refine Tri.bnd (awake_spec hK) ?_
  rintro _ _ ⟨rfl, rfl⟩
  have hd0 : ((0 : Int) != 0) = false := rfl
  simp only [Bool.not_true, Bool.false_eq_true, if_false, bnd_ret, hd0, Option.isNone_some]
  refine Tri.order [0, 1] rfl ?_
  generalize hc0 : cfg0 b m s o = c
  have cM : c.Message = ((1 + m : Nat) : Int) := by rw [← hc0]; rfl
  have cO : c.Out = ((1 + o : Nat) : Int) := by rw [← hc0]; rfl
  refine Tri.bndS (D := fun _ _ => True) ?_ (fun _ _ _ => Tri.ret rfl)
  have n0 := new_ok (message := 1 + m) (frame := 1 + s) (out := 1 + o) (draw := draw) (masked := masked) (by omega) (by omega) hd
  refine Tri.loop (μ := fun (i : Int) => 41 - i.toNat) (I := fun (i : Int) L' => ∃ (j : Nat) (x : Lm), i = j ∧ j ≤ 40 ∧ x.Ok ∧ x.Fit ∧ cnt 9 x.ctl ≤ j ∧ L' = legI a c x :: pts x6 (Agg.cells c) :: [pts b rtC]) ?_ (by unfold KBig at hK; simp; omega)
    ⟨0, Lm.new (1 + m) (1 + s) (1 + o) masked draw, rfl, by omega, n0.1, n0.2, by simp [Lm.new, cnt], rfl⟩
  rintro again i L' ⟨j, x, rfl, hj, hok, hfit, h9, rfl⟩ ih
  unfold law16_LegBound_l0
  refine Tri.val (decide (j < acts.length ∧ j < 40)) ?_ ?_
  · rw [hn]
    by_cases c1 : j < acts.length
    · have d1 : decide ((j : Int) < (acts.length : Int)) = true := by simp; omega
      rw [d1]
      simp only [if_true]
      exact Tri.ret ⟨by rw [Bool.eq_iff_iff]; simp only [decide_eq_true_eq]; omega, rfl⟩
    · have d1 : decide ((j : Int) < (acts.length : Int)) = false := by simp; omega
      rw [d1]
      simp only [Bool.false_eq_true, if_false]
      exact Tri.ret ⟨by rw [eq_comm, decide_eq_false]; omega, rfl⟩
  by_cases hc : j < acts.length ∧ j < 40
  · rw [decide_eq_true hc]
    simp only [if_true]
    obtain ⟨c1, c2⟩ := hc
    have hw1 : IntKind.wrap .i64 ((j : Int) + 1) = ((j + 1 : Nat) : Int) := by rw [w64 (by omega) (by omega)]; omega
    have hr' : Rd ρ (legI a c x :: pts x6 (Agg.cells c) :: [pts b rtC]) sl 5 (actl acts) := hr.tail.tail.tail
    refine Tri.ixA j hr' rfl (by omega) (by intro e; have e9 := congrArg List.length e; rw [actl_length, List.length_nil] at e9; omega) fun x203 h203 => ?_
    refine Tri.ldG acts[j] rfl (h203.cells hr' (by omega) (actl_get acts j c1) rfl) ?_
    refine Tri.new fun x205 => ?_
    refine Tri.stB (l := Agg.cells acts[j]) (by rfl) (by simp [Agg.cells]) rfl ?_
    have es2 : ∀ cs : List Value, cs.length = 5 → splice cs 0 (Agg.cells acts[j]) = Agg.cells acts[j] := by
      intro cs hc
      unfold splice
      rw [List.take_zero, List.nil_append, List.drop_eq_nil_of_le (by rw [hc]; simp [Agg.cells]), List.append_nil]
    rw [es2 _ rfl]
    refine Tri.ldG acts[j] rfl (Cells.here (i := 0) (by simp [Agg.cells]) rfl) ?_
    refine Tri.bnd few_spec ?_
    rintro _ _ ⟨rfl, rfl⟩
    have hact := hw acts[j] (List.getElem_mem c1)
    generalize acts[j] = t at hact ⊢
    by_cases hfew : t.S.size ≤ 300
    · rw [decide_eq_true hfew]
      simp only [Bool.not_true, Bool.false_eq_true, if_false]
      refine Tri.ldI (v := t.Kind) (Cell.here (i := 0) rfl) (Tri.lt (Tri.pick 1 rfl (Tri.bnd (play_spec hK hfit (by omega) hact hfew) ?_)))
      rintro _ _ rfl
      obtain ⟨q1, q2⟩ := act_ok hok hfit (by omega) t.Kind t.Op t.Code t.N t.S.data.toList
      obtain ⟨q3, q4⟩ := kin_act x t.Kind t.Op t.Code t.N t.S.data.toList
      generalize x.act t.Kind t.Op t.Code t.N t.S.data.toList = y at q1 q2 q3 q4 ⊢
      refine Tri.pick 1 rfl (Tri.drop (legFact fun hat => ?_))
      have hring := hat.ring
      have hkb := kept_bound hat q2
      have yO : (y.out : Int) = ((1 + o : Nat) : Int) := by rw [← hat.cfg.2.2, cO]
      have yM : (y.message : Int) = ((1 + m : Nat) : Int) := by rw [← hat.cfg.1, cM]
      have c7 : ∀ {A : Assn} {L' : As}, Cell ρ (A :: pts x6 (Agg.cells c) :: L') ⟨x6, 7, none⟩ (.int .i64 c.Out) := (Cell.here (i := 7) rfl).tail
      have c3 : ∀ {A : Assn} {L' : As}, Cell ρ (A :: pts x6 (Agg.cells c) :: L') ⟨x6, 3, none⟩ (.int .i64 c.Message) := (Cell.here (i := 3) rfl).tail
      have a7 : (⟨x6, 0, none⟩ : Addr).add 7 = ⟨x6, 7, none⟩ := rfl
      have a3 : (⟨x6, 0, none⟩ : Addr).add 3 = ⟨x6, 3, none⟩ := rfl
      rw [a7, a3]
      refine Tri.val false ?_ ?_
      · refine Tri.drw (Tri.wld1 c7 fun w255 h255 => Tri.ldI c7 ?_)
        refine Tri.bnd (legPeekS (by omega)) ?_
        rintro x256 _ ⟨h256, rfl⟩
        refine Tri.agr1 h255 c7.tail (Tri.drop ?_)
        have hp : (y.peek 70000).length ≤ y.out := by unfold Lm.peek; simp; omega
        have d1 : decide (c.Out < (x256.n : Int)) = false := by rw [h256, cO]; simp; omega
        rw [d1]
        simp only [Bool.false_eq_true, if_false]
        refine Tri.wld1 c3 fun w258 h258 => Tri.ldI c3 (Tri.wld1 c3 fun w260 h260 => Tri.ldI c3 ?_)
        refine Tri.bnd (legKeptS q2) ?_
        rintro _ _ ⟨_, rfl, rfl⟩
        refine Tri.agr1 h258 c3 (Tri.agr1 h260 c3 (Tri.ret ⟨?_, rfl⟩))
        rw [cM]
        have e9 : (if ((1 + m : Nat) : Int) < (125 : Int) then (125 : Int) else ((1 + m : Nat) : Int)) = ((max (1 + m) 125 : Nat) : Int) := by split <;> omega
        rw [e9, w64 (x := ((1 + m : Nat) : Int) + ((max (1 + m) 125 : Nat) : Int)) (by omega) (by omega), w64 (by omega) (by omega)]
        rw [decide_eq_false]; omega
      · simp only [Bool.false_eq_true, if_false]
        refine Tri.lt ?_
        rw [hw1]
        exact ih _ _ ⟨j + 1, y, rfl, by omega, q1, q2, by omega, rfl⟩ (by simp; omega)
    · rw [decide_eq_false hfew]
      simp only [Bool.not_false, if_true]
      refine Tri.lt ?_
      rw [hw1]
      exact Tri.drop (ih _ _ ⟨j + 1, x, rfl, by omega, hok, hfit, by omega, rfl⟩ (by simp; omega))
  · rw [decide_eq_false hc]
    simp only [Bool.false_eq_true, if_false]
    exact Tri.ret trivial
/-- three bytes -/
theorem three {l : List Int} (hn : l.length = 3) (hw : ∀ x ∈ l, (Lit.int .u8 x).wf = true) : ∃ x y z : Nat, l = [(x : Int), (y : Int), (z : Int)] ∧ x < 256 ∧ y < 256 ∧ z < 256 := by
  obtain ⟨m, rfl, hm⟩ := u8s hw
  match m, hn with
  | [x, y, z], _ => exact ⟨x, y, z, rfl, hm x (by simp), hm y (by simp), hm z (by simp)⟩
theorem legBound_walk {W : World} {l0 : List Int} (hn0 : l0.length = 3) (hw0 : ∀ x ∈ l0, (Lit.int .u8 x).wf = true) (b1 : Bool) {a2 : Int} (w2 : (Lit.int .u32 a2).wf = true) {a3 : Option Addr} {len3 cap3 : Nat} {l3 : List Tref16_Act} (hl3 : len3 = l3.length) (hc3 : len3 ≤ cap3) (ho3 : ∀ t ∈ l3, actOk t)
    (hr3 : rdSl W ⟨a3, len3, cap3⟩ 5 = some (l3.flatMap fun t => Agg.cells t)) :
    Calls Try.prog 4 #[.agg (l0.map (Value.int .u8)).toArray, .bool b1, .int .u32 a2, .slice a3 len3 cap3] W fun e w' => e = .returned (.bool true) ∧ RowKit.Below W.heap.size W w' := by
  obtain ⟨x, y, z, rfl, hx, hy, hz⟩ := three hn0 hw0
  obtain ⟨d, rfl, hd⟩ := u32n w2
  obtain ⟨K, hK⟩ : ∃ K, KBig K := ⟨_, Nat.le_refl _⟩
  exact (law16_LegBound_ref K ⟨(x : Int), (y : Int), (z : Int)⟩ b1 (d : Int) ⟨a3, len3, cap3⟩).call (legBound_spec hK rfl rfl rfl hx hy hz hd (Rd.old hr3) hl3 ho3)
end Go.Proofs.Ytjdnjlnfcbaokaa

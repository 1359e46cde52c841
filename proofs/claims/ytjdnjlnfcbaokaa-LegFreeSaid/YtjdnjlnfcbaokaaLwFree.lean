/-
  LAW LegFree, over its spec. Own work.
-/
import Derived.Test.YtjdnjlnfcbaokaaLwCom
import Derived.Test.YtjdnjlnfcbaokaaPl1
set_option linter.unusedVariables false
set_option linter.unusedSimpArgs false
set_option maxRecDepth 20000
namespace Go.Proofs.Ytjdnjlnfcbaokaa
open Go Go.Lg
variable {α β σ τ : Type} {ρ : Hp} {L M : As} {K : Nat}

/-! ### the plain part -/
structure FreeI (m s o : Nat) (x : Lm) : Prop where
  ok : x.Ok
  fit : x.Fit
  still : Still x
  sent : x.sent = false
  got : x.got = false
  wrong : x.wrong = 0
  ctl : x.ctl = []
  tail : x.tail.length ≤ 264
  rest : ∀ f ∈ x.rest, f.data.length ≤ 256
  masks : x.masks = false
  message : x.message = 1 + m
  frame : x.frame = 1 + s
  out : x.out = 1 + o
theorem free_new {m s o : Nat} (hm : m < 256) (hs : s < 256) : FreeI m s o (Lm.new (1 + m) (1 + s) (1 + o) true 0) := by
  obtain ⟨h1, h2⟩ := new_ok (message := 1 + m) (frame := 1 + s) (out := 1 + o) (draw := 0) (masked := true) (by omega) (by omega) (by omega)
  exact ⟨h1, h2, ⟨by simp [Lm.new], .inr ⟨rfl, rfl, rfl⟩⟩, rfl, rfl, rfl, rfl, by simp [Lm.new], by simp [Lm.new], rfl, rfl, rfl, rfl⟩
theorem free_send {m s o : Nat} (hs : s < 256) {x : Lm} (h : FreeI m s o x) (d : List UInt8) : FreeI m s o (x.send ⟨1, 0, d⟩).1 := by
  obtain ⟨q1, q2⟩ := send_ok h.ok h.fit ⟨1, 0, d⟩
  unfold Lm.send at q1 q2 ⊢
  split
  · rename_i hc
    rw [if_pos hc] at q1 q2
    have al := alike_move { x with rest := cutF (1 : Int).toNat d x.frame }
    have hd : ∀ f ∈ cutF (1 : Int).toNat d x.frame, f.data.length ≤ 256 := fun f hf => by have := cutF_data f hf; have := h.frame; omega
    obtain ⟨r1, r2⟩ := send_okE h.ok h.fit hc.2.1 hc.2.2
    refine ⟨q1, q2, move_still h.still.ring, al.sent.trans h.sent, al.got.trans h.got, al.wrong.trans h.wrong, ?_, ?_, ?_, al.masks.trans h.masks, al.message.trans h.message, al.frame.trans h.frame, al.out.trans h.out⟩
    · obtain ⟨⟨i, e⟩, _⟩ := moveF_drop (k := x.ctl.length + (cutF (1 : Int).toNat d x.frame).length + 1) (x := { x with rest := cutF (1 : Int).toNat d x.frame })
      have e2 : ({ x with rest := cutF (1 : Int).toNat d x.frame } : Lm).move.ctl = x.ctl.drop i := e
      rw [e2, h.ctl]; simp
    · refine tail_move (T := 264) r1 h.tail ?_
      intro f hf
      have hf' : f ∈ x.ctl ++ cutF (1 : Int).toNat d x.frame := hf
      rw [h.ctl, List.nil_append] at hf'
      have := hd f hf'
      have := frLen_le x.masks f (by omega)
      show frLen x.masks f ≤ 264
      omega
    · intro f hf; exact hd f (rest_move hf)
  · exact h
theorem free_out {m s o : Nat} {x : Lm} (h : FreeI m s o x) (n : Int) : FreeI m s o (x.out' n) := by
  obtain ⟨q1, q2⟩ := out_ok h.ok h.fit n
  have al := alike_move { x with ring := x.ring.drop n.toNat }
  have hok : ({ x with ring := x.ring.drop n.toNat } : Lm).Ok := ⟨h.ok.message, h.ok.frame, h.ok.most, h.ok.mm, h.ok.draw, h.ok.ctl, h.ok.rest, h.ok.tail⟩
  have hr := h.still.ring
  refine ⟨q1, q2, move_still (by show (x.ring.drop n.toNat).length ≤ x.out; simp; omega), al.sent.trans h.sent, al.got.trans h.got, al.wrong.trans h.wrong, ?_, ?_, ?_, al.masks.trans h.masks, al.message.trans h.message, al.frame.trans h.frame, al.out.trans h.out⟩
  · obtain ⟨⟨i, e⟩, _⟩ := moveF_drop (k := x.ctl.length + x.rest.length + 1) (x := { x with ring := x.ring.drop n.toNat })
    have e2 : (x.out' n).ctl = x.ctl.drop i := e
    rw [e2, h.ctl]; simp
  · refine tail_move (T := 264) hok h.tail ?_
    intro f hf
    have hf' : f ∈ x.ctl ++ x.rest := hf
    rw [h.ctl, List.nil_append] at hf'
    have := h.rest f hf'
    have := frLen_le x.masks f (by omega)
    show frLen x.masks f ≤ 264
    omega
  · intro f hf; exact h.rest f (rest_move (x := { x with ring := x.ring.drop n.toNat }) hf)
structure EndI (x : Lm) : Prop where
  ok : x.Ok
  fit : x.Fit
  still : Still x
  sent : x.sent = true
  got : x.got = false
  out : 0 < x.out
theorem end_out {x : Lm} (h : EndI x) (n : Int) : EndI (x.out' n) := by
  obtain ⟨q1, q2⟩ := out_ok h.ok h.fit n
  have al := alike_move { x with ring := x.ring.drop n.toNat }
  have hr := h.still.ring
  exact ⟨q1, q2, move_still (by show (x.ring.drop n.toNat).length ≤ x.out; simp; omega), al.sent.trans h.sent, al.got.trans h.got, by have : (x.out' n).out = x.out := al.out; rw [this]; exact h.out⟩
theorem closePut1000 : closePut 1000 [] = ([3, 232], 0) := by decide +kernel
theorem free_close {m s o : Nat} (ho : o < 256) {x : Lm} (h : FreeI m s o x) : (x.close 1000 []).2 = true ∧ EndI (x.close 1000 []).1 ∧ (x.close 1000 []).1.pend ≤ 1000 := by
  obtain ⟨q1, q2⟩ := close_ok h.ok h.fit 1000 []
  have hc : ¬ (x.sent = true ∨ (closePut 1000 []).2 ≠ 0) := by rw [h.sent, closePut1000]; simp
  have hx : x.close 1000 [] = (({ x with sent := true, rest := [] } : Lm).addC (ctlF 8 (closePut 1000 []).1), true) := by unfold Lm.close; rw [if_neg hc]
  rw [hx] at q1 q2 ⊢
  have al := alike_move { x with sent := true, rest := [], ctl := x.ctl ++ [ctlF 8 (closePut 1000 []).1] }
  have hok1 : ({ x with sent := true, rest := [] } : Lm).Ok := ⟨h.ok.message, h.ok.frame, h.ok.most, h.ok.mm, h.ok.draw, h.ok.ctl, by intro f hf; simp at hf, h.ok.tail⟩
  have hfit1 : ({ x with sent := true, rest := [] } : Lm).Fit := ⟨h.fit.part, by simp, h.fit.pong, by show cnt 8 x.ctl ≤ _; rw [h.ctl]; simp [cnt], h.fit.ping, h.fit.ops, h.fit.mop⟩
  obtain ⟨r1, r2⟩ := addC_ok hok1 hfit1 (ctlF_ok (op := 8) (.inl rfl) (closePut_len 1000 [])) (.inl rfl) (by simp [ctlF]) (fun _ => ⟨by show cnt 8 x.ctl = 0; rw [h.ctl]; rfl, rfl⟩) (by simp [ctlF])
  refine ⟨rfl, ⟨q1, q2, move_still h.still.ring, al.sent, al.got.trans h.got, ?_⟩, ?_⟩
  · show 0 < (({ x with sent := true, rest := [] } : Lm).addC _).out
    have : (({ x with sent := true, rest := [] } : Lm).addC (ctlF 8 (closePut 1000 []).1)).out = x.out := al.out
    rw [this, h.out]; omega
  · have e : (({ x with sent := true, rest := [] } : Lm).addC (ctlF 8 (closePut 1000 []).1)).pend = ({ x with sent := true, rest := [], ctl := x.ctl ++ [ctlF 8 (closePut 1000 []).1] } : Lm).pend := pend_move r1
    show (({ x with sent := true, rest := [] } : Lm).addC (ctlF 8 (closePut 1000 []).1)).pend ≤ 1000
    rw [e]
    unfold Lm.pend
    show x.ring.length + x.tail.length + frSum x.masks (x.ctl ++ [ctlF 8 (closePut 1000 []).1] ++ []) ≤ 1000
    rw [h.ctl, closePut1000]
    show x.ring.length + x.tail.length + frSum x.masks ([] ++ [ctlF 8 [3, 232]] ++ []) ≤ 1000
    have h1 := h.still.ring
    have h2 := h.out
    have h3 := h.tail
    have h4 : frSum x.masks ([] ++ [ctlF 8 [3, 232]] ++ []) ≤ 10 := by
      show frLen x.masks (ctlF 8 [3, 232]) + 0 ≤ 10
      have := frLen_le x.masks (ctlF 8 [3, 232]) (by decide)
      have e9 : (ctlF 8 [3, 232]).data.length = 2 := rfl
      omega
    omega
theorem end_step {x : Lm} (h : EndI x) (hq : x.quiet = false) {n : Int} (hn : 1 ≤ n) : (x.out' n).pend + 1 ≤ x.pend := by
  have h1 := pend_out h.ok n
  rw [h.still.quiet h.out] at hq
  have h2 : x.ring ≠ [] := fun e => by rw [e] at hq; simp at hq
  have h3 : 0 < x.ring.length := List.length_pos_iff.2 h2
  have h4 : 0 < (x.peek n).length := by unfold Lm.peek; simp; omega
  have h5 : (x.peek n).length ≤ x.pend := by unfold Lm.peek Lm.pend; simp; omega
  omega
theorem end_quiet {x : Lm} (h : EndI x) (h0 : x.pend = 0) : x.quiet = true := by
  rw [h.still.quiet h.out]
  have : x.ring.length = 0 := by unfold Lm.pend at h0; omega
  have := List.length_eq_zero_iff.1 this
  rw [this]; rfl
/-! ### the spec -/
theorem legFree_spec {k : A3u8} {m s o : Nat} {s1 s2 : Sl} {l : List ByteArray} {t : List Nat} (hK : KBig K) (e0 : k.e0 = (m : Int)) (e1 : k.e1 = (s : Int)) (e2 : k.e2 = (o : Int)) (hm : m < 256) (hs : s < 256) (ho : o < 256)
    (hr1 : Rd ρ [] s1 1 (strl l)) (hn1 : s1.n = l.length) (hr2 : Rd ρ [] s2 1 (u8l t)) (hn2 : s2.n = t.length) (ht : ∀ n ∈ t, n < 256) : Tri ρ [] (law16_LegFree K k s1 s2) (fun r _ => r = true) := by
  unfold law16_LegFree
  refine Tri.new fun x1 => ?_
  refine Tri.ldI (v := k.e0) (Cell.here (i := 0) rfl) (Tri.ldI (v := k.e1) (Cell.here (i := 1) rfl) (Tri.ldI (v := k.e2) (Cell.here (i := 2) rfl) ?_))
  rw [e0, e1, e2]
  refine Tri.drop (Tri.bnd (config_spec hm hs ho) ?_)
  rintro _ _ ⟨b, rfl, rfl⟩
  refine Tri.new fun x6 => ?_
  refine Tri.stB (l := Agg.cells (cfg0 b m s o)) (by rfl) (by simp [Agg.cells]) rfl ?_
  have es : ∀ cs : List Value, cs.length = 12 → splice cs 0 (Agg.cells (cfg0 b m s o)) = Agg.cells (cfg0 b m s o) := by
    intro cs hc
    unfold splice
    rw [List.take_zero, List.nil_append, List.drop_eq_nil_of_le (by rw [hc]; simp [Agg.cells]), List.append_nil]
  rw [es _ rfl]
  refine Tri.ldG (cfg0 b m s o) rfl (Cells.here (i := 0) (by simp [Agg.cells]) rfl) ?_
  refine Tri.pick 1 rfl (Tri.bnd (new0_spec (draw := 0) (masked := true) hK hm hs ho (by omega)) ?_)
  rintro _ _ ⟨a, rfl, rfl⟩
  refine Tri.bnd (awake_spec hK) ?_
  rintro _ _ ⟨rfl, rfl⟩
  have hd0 : ((0 : Int) != 0) = false := rfl
  simp only [Bool.not_true, Bool.false_eq_true, if_false, bnd_ret, hd0, Option.isNone_some]
  by_cases h20 : 20 < l.length
  · have hd : decide ((20 : Int) < (s1.n : Int)) = true := by simp; omega
    rw [hd]
    simp only [if_true]
    refine Tri.bnd (awake_spec hK) ?_
    rintro _ _ ⟨rfl, rfl⟩
    exact Tri.ret rfl
  have hd : decide ((20 : Int) < (s1.n : Int)) = false := by simp; omega
  rw [hd]
  simp only [Bool.false_eq_true, if_false]
  refine Tri.order [0, 1] rfl ?_
  generalize hc0 : cfg0 b m s o = c
  have cM : c.Message = ((1 + m : Nat) : Int) := by rw [← hc0]; rfl
  refine Tri.bndS (D := fun _ L' => ∃ x : Lm, FreeI m s o x ∧ L' = legI a c x :: pts x6 (Agg.cells c) :: [pts b rtC]) ?_ ?_
  · refine Tri.loop (μ := fun (i : Int) => 41 - i.toNat) (I := fun (i : Int) L' => ∃ (j : Nat) (x : Lm), i = j ∧ j ≤ l.length ∧ FreeI m s o x ∧ L' = legI a c x :: pts x6 (Agg.cells c) :: [pts b rtC]) ?_ (by unfold KBig at hK; simp; omega)
      ⟨0, Lm.new (1 + m) (1 + s) (1 + o) true 0, rfl, by omega, free_new hm hs, rfl⟩
    rintro again i L' ⟨j, x, rfl, hj, hx, rfl⟩ ih
    unfold law16_LegFree_l0
    rw [hn1]
    refine Tri.ite ?_ ?_
    · intro hc
      have c1 : j < l.length := by simp at hc; omega
      have hw1 : IntKind.wrap .i64 ((j : Int) + 1) = ((j + 1 : Nat) : Int) := by rw [w64 (by omega) (by omega)]; omega
      have hr1' : ∀ {A : Assn}, Rd ρ (A :: pts x6 (Agg.cells c) :: [pts b rtC]) s1 1 (strl l) := hr1.tail.tail.tail
      have hr2' : ∀ {A : Assn}, Rd ρ (A :: pts x6 (Agg.cells c) :: [pts b rtC]) s2 1 (u8l t) := hr2.tail.tail.tail
      have hne : strl l ≠ [] := by intro e; have e9 := congrArg List.length e; rw [strl_length, List.length_nil] at e9; omega
      refine Tri.ixA j hr1' rfl (by omega) hne fun x90 h90 => ?_
      refine Tri.ldS (h90.cell hr1' (strl_get l j c1) (by omega)) ?_
      by_cases h300 : 300 < l[j].size
      · have hd : decide ((300 : Int) < (l[j].size : Int)) = true := by simp; omega
        rw [hd]
        simp only [if_true]
        exact Tri.inr (Tri.ret rfl)
      have hd : decide ((300 : Int) < (l[j].size : Int)) = false := by simp; omega
      rw [hd]
      simp only [Bool.false_eq_true, if_false]
      refine Tri.bnd legFreeS ?_
      rintro _ _ ⟨rfl, rfl⟩
      have hmc : (x.message : Int) = c.Message := by rw [cM, hx.message]
      have hsend : (x.send ⟨1, 0, l[j].data.toList⟩).2 = (x.free && decide (l[j].size ≤ x.message)) := by
        have hcl : l[j].data.toList.length = l[j].size := by simp
        unfold Lm.send
        split
        · rename_i hh
          have h3 : l[j].size ≤ x.message := by have := hh.2.2; simpa [hcl] using this
          rw [hh.1, decide_eq_true h3]; rfl
        · rename_i hh
          cases hf : x.free with
          | false => rfl
          | true =>
            by_cases h3 : l[j].size ≤ x.message
            · exact absurd ⟨hf, .inl rfl, by simpa [hcl] using h3⟩ hh
            · rw [decide_eq_false h3]; rfl
      refine Tri.bnd (B := fun r L' => r = false ∧ L' = legI a c (x.send ⟨1, 0, l[j].data.toList⟩).1 :: pts x6 (Agg.cells c) :: [pts b rtC]) ?_ ?_
      · refine Tri.drw (Tri.ixA j hr1' rfl (by omega) hne fun x99 h99 => ?_)
        refine Tri.ldS (h99.cell hr1' (strl_get l j c1) (by omega)) ?_
        have et : Tapi_Event.mk (1 : Int) (0 : Int) l[j] = (⟨1, 0, l[j].data.toList⟩ : Ev).t := by simp only [Ev.t, ba_data]
        rw [et]
        refine Tri.bnd (legSendS hK hx.fit) ?_
        rintro _ _ ⟨rfl, rfl⟩
        rw [hsend]
        cases hf : x.free with
        | true =>
          simp only [if_true]
          refine Tri.ixA j hr1' rfl (by omega) hne fun x102 h102 => ?_
          refine Tri.ldS (h102.cell hr1' (strl_get l j c1) (by omega)) ?_
          refine Tri.ldI (v := c.Message) (Cell.here (i := 3) rfl).tail (Tri.ret ⟨?_, rfl⟩)
          have e9 : decide ((l[j].size : Int) ≤ c.Message) = decide (l[j].size ≤ x.message) := by
            rw [Bool.eq_iff_iff]; simp only [decide_eq_true_eq]; omega
          rw [e9]; simp
        | false =>
          simp only [Bool.false_eq_true, if_false]
          exact Tri.ret ⟨by simp, rfl⟩
      · rintro _ _ ⟨rfl, rfl⟩
        simp only [Bool.false_eq_true, if_false]
        have hy := free_send hs hx l[j].data.toList
        generalize (x.send ⟨1, 0, l[j].data.toList⟩).1 = y at hy ⊢
        refine Tri.bnd (B := fun _ L' => ∃ z : Lm, FreeI m s o z ∧ L' = legI a c z :: pts x6 (Agg.cells c) :: [pts b rtC]) ?_ ?_
        · rw [hn2]
          refine Tri.ite ?_ ?_
          · intro hc2
            have c2 : j < t.length := by simp at hc2; omega
            refine Tri.ixA j hr2' rfl (by omega) (by intro e; have e9 := congrArg List.length e; rw [u8l_length, List.length_nil] at e9; omega) fun x109 h109 => ?_
            refine Tri.ldI (h109.cell hr2' (u8l_get t j c2) (by omega)) ?_
            have := ht t[j] (List.getElem_mem c2)
            rw [w64 (by omega) (by omega)]
            refine Tri.bnd (legTakeS hK hy.fit (by omega)) ?_
            rintro _ _ ⟨_, rfl⟩
            exact Tri.drop (Tri.ret ⟨_, free_out hy _, rfl⟩)
          · intro _
            exact Tri.ret ⟨y, hy, rfl⟩
        · rintro _ _ ⟨z, hz, rfl⟩
          refine Tri.lt ?_
          rw [hw1]
          exact ih _ _ ⟨j + 1, z, rfl, by omega, hz, rfl⟩ (by simp; omega)
    · intro hc
      exact Tri.ret ⟨x, hx, rfl⟩
  · rintro _ _ ⟨x, hx, rfl⟩
    obtain ⟨k1, k2, k3⟩ := free_close ho hx
    rw [ba_nil]
    refine Tri.bnd (legCloseS (w := []) hK hx.fit (by simp)) ?_
    rintro _ _ ⟨rfl, rfl⟩
    rw [k1]
    have k4 : cnt 9 (x.close 1000 []).1.ctl = 0 := by
      have := (kin_close x 1000 []).2
      rw [hx.ctl] at this
      exact Nat.le_zero.1 this
    generalize (x.close 1000 []).1 = y at k2 k3 k4 ⊢
    simp only [Bool.not_true, Bool.false_eq_true, if_false, bnd_ret, bnd_bnd, bnd_ite, bnd_lt, bnd_ldB, bnd_ldI, bnd_ldS, bnd_ldP, bnd_ldSl, bnd_ldG, bnd_nn, bnd_ixA, bnd_st, bnd_drw, bnd_strOf, bnd_new, bnd_slS, bnd_slA, bnd_slStr, bnd_app, bnd_appS, bnd_appT, bnd_appZ, bnd_chk, bnd_mk, bnd_cpy, bnd_wld, bnd_agr, bnd_bytesOf, bnd_drw2, bnd_mrk, bnd_fail, sumK_inl, sumK_inr, bnd_inr]
    refine Tri.bnd legFreeS ?_
    rintro _ _ ⟨rfl, rfl⟩
    have hf : y.free = false := by simp [Lm.free, k2.sent]
    rw [hf]
    simp only [Bool.false_eq_true, if_false, bnd_ret, bnd_bnd, bnd_ite, bnd_lt, bnd_ldB, bnd_ldI, bnd_ldS, bnd_ldP, bnd_ldSl, bnd_ldG, bnd_nn, bnd_ixA, bnd_st, bnd_drw, bnd_strOf, bnd_new, bnd_slS, bnd_slA, bnd_slStr, bnd_app, bnd_appS, bnd_appT, bnd_appZ, bnd_chk, bnd_mk, bnd_cpy, bnd_wld, bnd_agr, bnd_bytesOf, bnd_drw2, bnd_mrk, bnd_fail, sumK_inl, sumK_inr, bnd_inr]
    refine Tri.bnd (legSendS (e := ⟨1, 0, []⟩) hK k2.fit) ?_
    rintro _ _ ⟨rfl, rfl⟩
    rw [send_no k2.sent]
    simp only [Bool.false_eq_true, if_false, bnd_ret, bnd_bnd, bnd_ite, bnd_lt, bnd_ldB, bnd_ldI, bnd_ldS, bnd_ldP, bnd_ldSl, bnd_ldG, bnd_nn, bnd_ixA, bnd_st, bnd_drw, bnd_strOf, bnd_new, bnd_slS, bnd_slA, bnd_slStr, bnd_app, bnd_appS, bnd_appT, bnd_appZ, bnd_chk, bnd_mk, bnd_cpy, bnd_wld, bnd_agr, bnd_bytesOf, bnd_drw2, bnd_mrk, bnd_fail, sumK_inl, sumK_inr, bnd_inr]
    refine Tri.bnd (legPingS (d := []) hK k2.fit (by omega)) ?_
    rintro _ _ ⟨rfl, rfl⟩
    rw [ping_no k2.sent]
    simp only [Bool.false_eq_true, if_false, bnd_ret, bnd_bnd, bnd_ite, bnd_lt, bnd_ldB, bnd_ldI, bnd_ldS, bnd_ldP, bnd_ldSl, bnd_ldG, bnd_nn, bnd_ixA, bnd_st, bnd_drw, bnd_strOf, bnd_new, bnd_slS, bnd_slA, bnd_slStr, bnd_app, bnd_appS, bnd_appT, bnd_appZ, bnd_chk, bnd_mk, bnd_cpy, bnd_wld, bnd_agr, bnd_bytesOf, bnd_drw2, bnd_mrk, bnd_fail, sumK_inl, sumK_inr, bnd_inr]
    refine Tri.bnd (legCloseS (w := []) hK k2.fit (by simp)) ?_
    rintro _ _ ⟨rfl, rfl⟩
    rw [close_no k2.sent]
    simp only [Bool.false_eq_true, if_false, bnd_ret, bnd_bnd, bnd_ite, bnd_lt, bnd_ldB, bnd_ldI, bnd_ldS, bnd_ldP, bnd_ldSl, bnd_ldG, bnd_nn, bnd_ixA, bnd_st, bnd_drw, bnd_strOf, bnd_new, bnd_slS, bnd_slA, bnd_slStr, bnd_app, bnd_appS, bnd_appT, bnd_appZ, bnd_chk, bnd_mk, bnd_cpy, bnd_wld, bnd_agr, bnd_bytesOf, bnd_drw2, bnd_mrk, bnd_fail, sumK_inl, sumK_inr, bnd_inr]
    refine Tri.bnd (legSendS (e := ⟨9, 0, []⟩) hK k2.fit) ?_
    rintro _ _ ⟨rfl, rfl⟩
    rw [send_no k2.sent]
    simp only [Bool.false_eq_true, if_false, bnd_ret, bnd_bnd, bnd_ite, bnd_lt, bnd_ldB, bnd_ldI, bnd_ldS, bnd_ldP, bnd_ldSl, bnd_ldG, bnd_nn, bnd_ixA, bnd_st, bnd_drw, bnd_strOf, bnd_new, bnd_slS, bnd_slA, bnd_slStr, bnd_app, bnd_appS, bnd_appT, bnd_appZ, bnd_chk, bnd_mk, bnd_cpy, bnd_wld, bnd_agr, bnd_bytesOf, bnd_drw2, bnd_mrk, bnd_fail, sumK_inl, sumK_inr, bnd_inr]
    refine Tri.bnd (B := fun _ L' => ∃ z : Lm, EndI z ∧ z.quiet = true ∧ L' = legI a c z :: pts x6 (Agg.cells c) :: [pts b rtC]) ?_ ?_
    · refine Tri.loop (μ := fun (i : Int) => 1001 - i.toNat) (I := fun (i : Int) L' => ∃ (j : Nat) (z : Lm), i = j ∧ j ≤ 1000 ∧ EndI z ∧ z.pend + j ≤ 1000 ∧ L' = legI a c z :: pts x6 (Agg.cells c) :: [pts b rtC]) ?_ (by unfold KBig at hK; simp; omega)
        ⟨0, y, rfl, by omega, k2, by omega, rfl⟩
      rintro again i L' ⟨j, z, rfl, hj, hz, hp, rfl⟩ ih
      unfold law16_LegFree_l1
      have hw1 : IntKind.wrap .i64 ((j : Int) + 1) = ((j + 1 : Nat) : Int) := by rw [w64 (by omega) (by omega)]; omega
      by_cases c1 : j < 1000
      · have hd : decide ((j : Int) < 1000) = true := by simp; omega
        rw [hd]
        simp only [if_true, bnd_ret, bnd_bnd, bnd_ite, bnd_lt, bnd_ldB, bnd_ldI, bnd_ldS, bnd_ldP, bnd_ldSl, bnd_ldG, bnd_nn, bnd_ixA, bnd_st, bnd_drw, bnd_strOf, bnd_new, bnd_slS, bnd_slA, bnd_slStr, bnd_app, bnd_appS, bnd_appT, bnd_appZ, bnd_chk, bnd_mk, bnd_cpy, bnd_wld, bnd_agr, bnd_bytesOf, bnd_drw2, bnd_mrk, bnd_fail, sumK_inl, sumK_inr, bnd_inr]
        refine Tri.bnd legQuietS ?_
        rintro _ _ ⟨rfl, rfl⟩
        cases hq : z.quiet with
        | true =>
          simp only [Bool.not_true, Bool.false_eq_true, if_false]
          exact Tri.ret ⟨z, hz, hq, rfl⟩
        | false =>
          simp only [Bool.not_false, if_true]
          refine Tri.bnd (legTakeS hK hz.fit (by omega)) ?_
          rintro _ _ ⟨_, rfl⟩
          refine Tri.drop (Tri.lt ?_)
          rw [hw1]
          have := end_step hz hq (n := 100) (by omega)
          exact ih _ _ ⟨j + 1, _, rfl, by omega, end_out hz 100, by omega, rfl⟩ (by simp; omega)
      · have hd : decide ((j : Int) < 1000) = false := by simp; omega
        rw [hd]
        simp only [Bool.false_eq_true, if_false, bnd_ret, bnd_bnd, bnd_ite, bnd_lt, bnd_ldB, bnd_ldI, bnd_ldS, bnd_ldP, bnd_ldSl, bnd_ldG, bnd_nn, bnd_ixA, bnd_st, bnd_drw, bnd_strOf, bnd_new, bnd_slS, bnd_slA, bnd_slStr, bnd_app, bnd_appS, bnd_appT, bnd_appZ, bnd_chk, bnd_mk, bnd_cpy, bnd_wld, bnd_agr, bnd_bytesOf, bnd_drw2, bnd_mrk, bnd_fail, sumK_inl, sumK_inr, bnd_inr]
        exact Tri.ret ⟨z, hz, end_quiet hz (by omega), rfl⟩
    · rintro _ _ ⟨z, hz, hq, rfl⟩
      refine Tri.bnd legQuietS ?_
      rintro _ _ ⟨rfl, rfl⟩
      rw [hq]
      simp only [if_true, bnd_ret, bnd_bnd, bnd_ite, bnd_lt, bnd_ldB, bnd_ldI, bnd_ldS, bnd_ldP, bnd_ldSl, bnd_ldG, bnd_nn, bnd_ixA, bnd_st, bnd_drw, bnd_strOf, bnd_new, bnd_slS, bnd_slA, bnd_slStr, bnd_app, bnd_appS, bnd_appT, bnd_appZ, bnd_chk, bnd_mk, bnd_cpy, bnd_wld, bnd_agr, bnd_bytesOf, bnd_drw2, bnd_mrk, bnd_fail, sumK_inl, sumK_inr, bnd_inr]
      refine Tri.bnd legSentS ?_
      rintro _ _ ⟨rfl, rfl⟩
      rw [hz.sent]
      simp only [if_true, bnd_ret, bnd_bnd, bnd_ite, bnd_lt, bnd_ldB, bnd_ldI, bnd_ldS, bnd_ldP, bnd_ldSl, bnd_ldG, bnd_nn, bnd_ixA, bnd_st, bnd_drw, bnd_strOf, bnd_new, bnd_slS, bnd_slA, bnd_slStr, bnd_app, bnd_appS, bnd_appT, bnd_appZ, bnd_chk, bnd_mk, bnd_cpy, bnd_wld, bnd_agr, bnd_bytesOf, bnd_drw2, bnd_mrk, bnd_fail, sumK_inl, sumK_inr, bnd_inr]
      refine Tri.bnd legGotS ?_
      rintro _ _ ⟨rfl, rfl⟩
      rw [hz.got]
      exact Tri.ret rfl
theorem legFree_walk {W : World} {l0 : List Int} (hn0 : l0.length = 3) (hw0 : ∀ x ∈ l0, (Lit.int .u8 x).wf = true) {a1 : Option Addr} {len1 cap1 : Nat} {l1 : List ByteArray} (hl1 : len1 = l1.length) (hc1 : len1 ≤ maxLen) (ho1 : ∀ s ∈ l1, s.size ≤ maxLen) (hr1 : rdSl W ⟨a1, len1, cap1⟩ 1 = some (l1.flatMap strC))
    {a2 : Option Addr} {len2 cap2 : Nat} {l2 : List Int} (hl2 : len2 = l2.length) (hc2 : len2 ≤ maxLen) (ho2 : ∀ x ∈ l2, (Lit.int .u8 x).wf = true) (hr2 : rdSl W ⟨a2, len2, cap2⟩ 1 = some (l2.flatMap fun n : Int => [.int .u8 n])) :
    Calls Try.prog 7 #[.agg (l0.map (Value.int .u8)).toArray, .slice a1 len1 cap1, .slice a2 len2 cap2] W fun e w' => e = .returned (.bool true) ∧ RowKit.Below W.heap.size W w' := by
  obtain ⟨x, y, z, rfl, hx, hy, hz⟩ := three hn0 hw0
  obtain ⟨t, rfl, ht⟩ := u8s ho2
  have e2 : ∀ t : List Nat, (t.map fun n : Nat => (n : Int)).flatMap (fun n : Int => [Value.int .u8 n]) = u8l t := fun t => by
    induction t with
    | nil => rfl
    | cons n t ih => simp only [u8l, List.map_cons, List.flatMap_cons] at ih ⊢; rw [ih]; rfl
  rw [e2] at hr2
  obtain ⟨K, hK⟩ : ∃ K, KBig K := ⟨_, Nat.le_refl _⟩
  exact (law16_LegFree_ref K ⟨(x : Int), (y : Int), (z : Int)⟩ ⟨a1, len1, cap1⟩ ⟨a2, len2, cap2⟩).call (legFree_spec hK rfl rfl rfl hx hy hz (Rd.old hr1) hl1 (Rd.old hr2) (by simpa using hl2) ht)
end Go.Proofs.Ytjdnjlnfcbaokaa

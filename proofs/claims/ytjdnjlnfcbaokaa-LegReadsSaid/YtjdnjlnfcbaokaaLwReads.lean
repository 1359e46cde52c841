/-
  LAW LegReads, over its spec. Own work.
-/
import Derived.Test.YtjdnjlnfcbaokaaPl2
import Derived.Test.YtjdnjlnfcbaokaaLwSame
set_option linter.unusedVariables false
set_option linter.unusedSimpArgs false
set_option maxRecDepth 20000
namespace Go.Proofs.Ytjdnjlnfcbaokaa
open Go Go.Lg
variable {α β σ τ : Type} {ρ : Hp} {L M : As} {K : Nat}

theorem few10_spec {s : Sl} {l : List ByteArray} (hk : l.length < K) (hm : l.length ≤ 9223372036854775807) (hr : Rd ρ L s 1 (strl l)) (hn : s.n = l.length) :
    Tri ρ L (ref10_Few K s) (fun r L' => (r = true → l.length ≤ 40 ∧ ∀ x ∈ l, x.size ≤ 300) ∧ L' = L) := by
  unfold ref10_Few
  refine Tri.bndS (D := fun _ L' => (∀ x ∈ l, x.size ≤ 300) ∧ L' = L) ?_ ?_
  · refine Tri.loop (μ := fun (i : Int) => l.length - i.toNat) (I := fun (i : Int) L' => ∃ j : Nat, i = j ∧ j ≤ l.length ∧ (∀ x ∈ l.take j, x.size ≤ 300) ∧ L' = L) ?_ (by simp; omega) ⟨0, rfl, by omega, by simp, rfl⟩
    rintro again i L' ⟨j, rfl, hj, ht, rfl⟩ ih
    unfold ref10_Few_l0
    rw [hn]
    refine Tri.ite ?_ ?_
    · intro hc
      have c1 : j < l.length := by simp at hc; omega
      refine Tri.ixA j hr rfl (by omega) (by intro e; have e9 := congrArg List.length e; rw [strl_length, List.length_nil] at e9; omega) fun x14 h14 => ?_
      refine Tri.ldS (h14.cell hr (strl_get l j c1) (by omega)) ?_
      by_cases h300 : 300 < l[j].size
      · have hd : decide ((300 : Int) < (l[j].size : Int)) = true := by simp; omega
        rw [hd]
        simp only [if_true]
        exact Tri.inr (Tri.ret ⟨by simp, rfl⟩)
      · have hd : decide ((300 : Int) < (l[j].size : Int)) = false := by simp; omega
        rw [hd]
        simp only [Bool.false_eq_true, if_false]
        refine Tri.lt ?_
        rw [w64 (by omega) (by omega)]
        refine ih _ _ ⟨j + 1, by omega, by omega, ?_, rfl⟩ (by omega)
        intro x hx
        rw [List.take_add_one, List.getElem?_eq_getElem c1] at hx
        simp only [List.mem_append, Option.toList_some, List.mem_singleton] at hx
        rcases hx with hx | rfl
        · exact ht x hx
        · omega
    · intro hc
      have c1 : j = l.length := by simp at hc; omega
      rw [c1, List.take_length] at ht
      exact Tri.ret ⟨ht, rfl⟩
  · rintro _ _ ⟨ht, rfl⟩
    refine Tri.lt (Tri.ret ⟨?_, rfl⟩)
    intro h
    simp at h
    exact ⟨by omega, ht⟩
/-! ### the plain part -/
theorem feed_evs {x : Lm} (hok : x.Ok) (h : x.Fit) (b : List UInt8) : (x.feed b).2.length ≤ 65550 + b.length := by
  have hmost : x.inn.most ≤ 65536 := by rw [hok.most]; have := hok.message; omega
  have hp := h.part
  unfold Lm.feed
  split
  · simp
  · refine Nat.le_trans (feedL_len _ _) ?_
    rw [feed_parse]
    split
    · simp
    · have hlen := feedS_len (masked := x.inn.masked) (most := x.inn.most) (k := (x.inn.part ++ b).length + 1) (p := x.inn.part ++ b) (by omega)
      show (parse _ _ _).1.length ≤ _
      unfold parse
      simp at hlen ⊢; omega
def allB (l : List ByteArray) : List UInt8 := l.flatMap fun s => s.data.toList
theorem allB_snoc (l : List ByteArray) (s : ByteArray) : allB (l ++ [s]) = allB l ++ s.data.toList := by simp [allB]
theorem allB_len {l : List ByteArray} (h : ∀ x ∈ l, x.size ≤ 300) : (allB l).length ≤ l.length * 300 := by
  induction l with
  | nil => simp [allB]
  | cons s l ih =>
    have h1 := h s (by simp)
    have h2 := ih fun x hx => h x (List.mem_cons_of_mem _ hx)
    have e : allB (s :: l) = s.data.toList ++ allB l := by simp [allB]
    rw [e]; simp; omega
theorem legReads_spec {masked : Bool} {s1 s2 : Sl} {l1 l2 : List ByteArray} (hK : KBig K) (hk1 : l1.length < K) (hm1 : l1.length ≤ 9223372036854775807) (hk2 : l2.length < K) (hm2 : l2.length ≤ 9223372036854775807)
    (hr1 : Rd ρ [] s1 1 (strl l1)) (hn1 : s1.n = l1.length) (hr2 : Rd ρ [] s2 1 (strl l2)) (hn2 : s2.n = l2.length) : Tri ρ [] (law16_LegReads K masked s1 s2) (fun r _ => r = true) := by
  unfold law16_LegReads
  refine Tri.bnd (config_spec (m := 250) (s := 50) (o := 250) (by omega) (by omega) (by omega)) ?_
  rintro _ _ ⟨b, rfl, rfl⟩
  refine Tri.new fun x6 => ?_
  refine Tri.stB (l := Agg.cells (cfg0 b 250 50 250)) (by rfl) (by simp [Agg.cells]) rfl ?_
  have es : ∀ cs : List Value, cs.length = 12 → splice cs 0 (Agg.cells (cfg0 b 250 50 250)) = Agg.cells (cfg0 b 250 50 250) := by
    intro cs hc
    unfold splice
    rw [List.take_zero, List.nil_append, List.drop_eq_nil_of_le (by rw [hc]; simp [Agg.cells]), List.append_nil]
  rw [es _ rfl]
  refine Tri.ldG (cfg0 b 250 50 250) rfl (Cells.here (i := 0) (by simp [Agg.cells]) rfl) ?_
  refine Tri.pick 1 rfl (Tri.bnd (new0_spec (draw := 1) (masked := masked) hK (by omega) (by omega) (by omega) (by omega)) ?_)
  rintro _ _ ⟨a, rfl, rfl⟩
  refine Tri.ldG (cfg0 b 250 50 250) rfl (Cells.here (i := 0) (by simp [Agg.cells]) rfl).tail.tail ?_
  refine Tri.pick 1 rfl (Tri.bnd (new0_spec (draw := 1) (masked := masked) hK (by omega) (by omega) (by omega) (by omega)) ?_)
  rintro _ _ ⟨a', rfl, rfl⟩
  refine Tri.bnd (awake_spec hK) ?_
  rintro _ _ ⟨rfl, rfl⟩
  have hd0 : ((0 : Int) != 0) = false := rfl
  simp only [Bool.not_true, Bool.false_eq_true, if_false, bnd_ret, hd0, Option.isNone_some, bnd_ret, bnd_bnd, bnd_ite, bnd_lt, bnd_ldB, bnd_ldI, bnd_ldS, bnd_ldP, bnd_ldSl, bnd_ldG, bnd_nn, bnd_ixA, bnd_st, bnd_drw, bnd_strOf, bnd_new, bnd_slS, bnd_slA, bnd_slStr, bnd_app, bnd_appS, bnd_appT, bnd_appZ, bnd_chk, bnd_mk, bnd_cpy, bnd_wld, bnd_agr, bnd_bytesOf, bnd_drw2, bnd_mrk, bnd_fail, sumK_inl, sumK_inr, bnd_inr]
  refine Tri.order [0, 1] rfl ?_
  generalize cfg0 b 250 50 250 = c
  have awk : ∀ {L' : As}, Tri ρ L' (bnd (law16_awake K) fun x16 => ret x16) (fun r _ => r = true) := by
    intro L'
    refine Tri.bnd (awake_spec hK) ?_
    rintro _ _ ⟨rfl, rfl⟩
    exact Tri.ret rfl
  have hr1' : ∀ {A B C D : Assn}, Rd ρ [A, B, C, D] s1 1 (strl l1) := hr1.tail.tail.tail.tail
  have hr2' : ∀ {A B C D : Assn}, Rd ρ [A, B, C, D] s2 1 (strl l2) := hr2.tail.tail.tail.tail
  refine Tri.bnd (few10_spec hk1 hm1 hr1' hn1) ?_
  rintro f1 _ ⟨hf1, rfl⟩
  cases f1 with
  | false => simp only [Bool.not_false, if_true, bnd_ret, bnd_bnd, bnd_ite, bnd_lt, bnd_ldB, bnd_ldI, bnd_ldS, bnd_ldP, bnd_ldSl, bnd_ldG, bnd_nn, bnd_ixA, bnd_st, bnd_drw, bnd_strOf, bnd_new, bnd_slS, bnd_slA, bnd_slStr, bnd_app, bnd_appS, bnd_appT, bnd_appZ, bnd_chk, bnd_mk, bnd_cpy, bnd_wld, bnd_agr, bnd_bytesOf, bnd_drw2, bnd_mrk, bnd_fail, sumK_inl, sumK_inr, bnd_inr]; exact awk
  | true =>
  simp only [Bool.not_true, Bool.false_eq_true, if_false, bnd_ret, bnd_bnd, bnd_ite, bnd_lt, bnd_ldB, bnd_ldI, bnd_ldS, bnd_ldP, bnd_ldSl, bnd_ldG, bnd_nn, bnd_ixA, bnd_st, bnd_drw, bnd_strOf, bnd_new, bnd_slS, bnd_slA, bnd_slStr, bnd_app, bnd_appS, bnd_appT, bnd_appZ, bnd_chk, bnd_mk, bnd_cpy, bnd_wld, bnd_agr, bnd_bytesOf, bnd_drw2, bnd_mrk, bnd_fail, sumK_inl, sumK_inr, bnd_inr]
  refine Tri.bnd (few10_spec hk2 hm2 hr2' hn2) ?_
  rintro f2 _ ⟨hf2, rfl⟩
  cases f2 with
  | false => simp only [Bool.not_false, if_true, bnd_ret, bnd_bnd, bnd_ite, bnd_lt, bnd_ldB, bnd_ldI, bnd_ldS, bnd_ldP, bnd_ldSl, bnd_ldG, bnd_nn, bnd_ixA, bnd_st, bnd_drw, bnd_strOf, bnd_new, bnd_slS, bnd_slA, bnd_slStr, bnd_app, bnd_appS, bnd_appT, bnd_appZ, bnd_chk, bnd_mk, bnd_cpy, bnd_wld, bnd_agr, bnd_bytesOf, bnd_drw2, bnd_mrk, bnd_fail, sumK_inl, sumK_inr, bnd_inr]; exact awk
  | true =>
  simp only [Bool.not_true, Bool.false_eq_true, if_false, bnd_ret, bnd_bnd, bnd_ite, bnd_lt, bnd_ldB, bnd_ldI, bnd_ldS, bnd_ldP, bnd_ldSl, bnd_ldG, bnd_nn, bnd_ixA, bnd_st, bnd_drw, bnd_strOf, bnd_new, bnd_slS, bnd_slA, bnd_slStr, bnd_app, bnd_appS, bnd_appT, bnd_appZ, bnd_chk, bnd_mk, bnd_cpy, bnd_wld, bnd_agr, bnd_bytesOf, bnd_drw2, bnd_mrk, bnd_fail, sumK_inl, sumK_inr, bnd_inr]
  obtain ⟨n1, z1⟩ := hf1 rfl
  obtain ⟨n2, z2⟩ := hf2 rfl
  obtain ⟨q1, q2⟩ := new_ok (message := 1 + 250) (frame := 1 + 50) (out := 1 + 250) (draw := 1) (masked := masked) (by omega) (by omega) (by omega)
  have hin : InOk (Lm.new (1 + 250) (1 + 50) (1 + 250) masked 1).inn (Lm.new (1 + 250) (1 + 50) (1 + 250) masked 1).cr := fun _ => rfl
  have h00 : Eqv (Lm.new (1 + 250) (1 + 50) (1 + 250) masked 1).core ((Lm.new (1 + 250) (1 + 50) (1 + 250) masked 1).feed []).1.core ∧ ((Lm.new (1 + 250) (1 + 50) (1 + 250) masked 1).feed []).2 = [] := by
    cases masked <;> exact ⟨⟨rfl, fun _ => rfl⟩, rfl⟩
  generalize Lm.new (1 + 250) (1 + 50) (1 + 250) masked 1 = x0 at q1 q2 hin h00 ⊢
  refine Tri.new fun x17 => emptyRow (sz := 3) (Tri.lt (Tri.new fun x19 => emptyRow (sz := 1) ?_))
  refine Tri.appS (new := strl l1) (hr1'.tail) (by rw [strl_length, hn1]; omega) ?_ (by rw [hn1]; simp; omega) fun x20 h20 => ?_
  · rw [List.all_eq_true]; intro v hv; simp only [strl, List.mem_flatMap, strC, List.mem_singleton] at hv; obtain ⟨_, _, rfl⟩ := hv; rfl
  refine Tri.appS (new := strl l2) (hr2'.tail) (by rw [strl_length, hn2]; omega) ?_ (by rw [hn2, h20, hn1]; simp; omega) fun x21 h21 => ?_
  · rw [List.all_eq_true]; intro v hv; simp only [strl, List.mem_flatMap, strC, List.mem_singleton] at hv; obtain ⟨_, _, rfl⟩ := hv; rfl
  have el : ([] ++ strl l1) ++ strl l2 = strl (l1 ++ l2) := by simp [strl]
  rw [el]
  have hn21 : x21.n = (l1 ++ l2).length := by rw [h21, h20, hn1, hn2]; simp
  have hz : ∀ x ∈ l1 ++ l2, x.size ≤ 300 := by intro x hx; simp only [List.mem_append] at hx; rcases hx with h | h; exact z1 x h; exact z2 x h
  have hlen : (l1 ++ l2).length ≤ 80 := by simp; omega
  generalize l1 ++ l2 = l at hn21 hz hlen
  refine Tri.order [1] rfl ?_
  have rowL : ∀ {A : Assn} {L' : As}, Rd ρ (A :: row x21 1 (strl l) :: L') x21 1 (strl l) := Rd.row.tail
  have hal := allB_len hz
  refine Tri.bnd (B := fun r L' => ∃ (x : Lm) (es : List Ev), r.1 = ba (allB l) ∧ r.2.n = es.length ∧ es.length ≤ 6000000 ∧ Eqv x.core (x0.feed (allB l)).1.core ∧ es = (x0.feed (allB l)).2 ∧ L' = row r.2 3 (evl es) :: row x21 1 (strl l) :: legI a' c x0 :: legI a c x :: [pts b rtC, pts x6 (Agg.cells c)]) ?_ ?_
  · refine Tri.loop (μ := fun (i : ByteArray × Sl × Int) => l.length - i.2.2.toNat) (I := fun (i : ByteArray × Sl × Int) L' => ∃ (j : Nat) (x : Lm) (es : List Ev), i.2.2 = j ∧ j ≤ l.length ∧ i.1 = ba (allB (l.take j)) ∧ i.2.1.n = es.length ∧ es.length ≤ j * 66000 ∧ x.Ok ∧ x.Fit ∧
        Eqv x.core (x0.feed (allB (l.take j))).1.core ∧ es = (x0.feed (allB (l.take j))).2 ∧ L' = row i.2.1 3 (evl es) :: row x21 1 (strl l) :: legI a' c x0 :: legI a c x :: [pts b rtC, pts x6 (Agg.cells c)]) ?_ (by unfold KBig at hK; simp; omega)
      ⟨0, x0, [], rfl, by omega, rfl, rfl, by simp, q1, q2, h00.1, h00.2.symm, rfl⟩
    rintro again ⟨i1, i2, i3⟩ L' ⟨j, x, es, hi3, hj, hi1, hi2, hel, hok, hfit, hE, hes, rfl⟩ ih
    dsimp only at hi3 hi1 hi2 ⊢
    subst hi3; subst hi1
    unfold law16_LegReads_l0
    dsimp only
    rw [hn21]
    refine Tri.ite ?_ ?_
    · intro hc
      have c1 : j < l.length := by simp at hc; omega
      have hs300 := hz _ (List.getElem_mem c1)
      have hne : strl l ≠ [] := by intro e; have e9 := congrArg List.length e; rw [strl_length, List.length_nil] at e9; omega
      have htk : (allB (l.take j)).length ≤ j * 300 := by
        have := allB_len (l := l.take j) (fun x hx => hz x (List.mem_of_mem_take hx))
        simp at this; omega
      refine Tri.ixA j rowL rfl (by omega) hne fun x56 h56 => ?_
      refine Tri.ldS (h56.cell rowL (strl_get l j c1) (by omega)) ?_
      refine Tri.chk (by rw [ba_size]; omega) (Tri.lt ?_)
      refine Tri.ixA j rowL rfl (by omega) hne fun x60 h60 => ?_
      refine Tri.ldS (h60.cell rowL (strl_get l j c1) (by omega)) ?_
      have etk : l.take (j + 1) = l.take j ++ [l[j]] := by rw [List.take_add_one, List.getElem?_eq_getElem c1]; rfl
      have eall : allB (l.take (j + 1)) = allB (l.take j) ++ l[j].data.toList := by rw [etk, allB_snoc]
      generalize l[j] = t at hs300 eall ⊢
      have hcl : t.data.toList.length = t.size := by simp
      refine Tri.bytesOf fun s' hs' _ => ?_
      rw [bytes_bl]
      obtain ⟨p1, p2⟩ := pieces hin hE hes t.data.toList
      obtain ⟨f1, f2⟩ := feed_ok hok hfit t.data.toList
      have hfe := feed_evs hok hfit t.data.toList
      refine Tri.pick 4 rfl (Tri.bnd (legFeedS (b := t.data.toList) hK hfit Rd.row (by rw [hs', hcl]) (by omega)) ?_)
      rintro x63 _ ⟨h63, rfl⟩
      refine Tri.pick 3 rfl ?_
      refine Tri.appS (new := evl (x.feed t.data.toList).2) Rd.row (by rw [evl_length, h63]) (evl_one _) (by rw [hi2, h63]; omega) fun x64 h64 => ?_
      have eap : evl es ++ evl (x.feed t.data.toList).2 = evl (es ++ (x.feed t.data.toList).2) := by simp [evl]
      rw [eap]
      refine Tri.order [1] rfl (Tri.drop (Tri.order [2] rfl (Tri.drop (Tri.order [0, 1, 1] rfl (Tri.lt ?_)))))
      rw [w64 (by omega) (by omega)]
      refine ih _ _ ⟨j + 1, _, es ++ (x.feed t.data.toList).2, by simp, by omega, ?_, by rw [h64, hi2, h63]; simp, ?_, f1, f2, by rw [eall]; exact p1, by rw [eall]; exact p2, rfl⟩ (by simp; omega)
      · show ba (allB (l.take j)) ++ t = _
        rw [eall, ← ba_append, ba_data]
      · simp; omega
    · intro hc
      have c1 : j = l.length := by simp at hc; omega
      rw [c1, List.take_length] at hE hes
      refine Tri.ret ⟨x, es, ?_, hi2, by omega, hE, hes, rfl⟩
      rw [c1, List.take_length]
  · rintro ⟨r1, r2⟩ _ ⟨x, es, hr1, hr2, hel, hE, hes, rfl⟩
    dsimp only at hr1 hr2 ⊢
    subst hr1
    refine Tri.bytesOf fun x67 h67 _ => ?_
    rw [bytes_ba]
    rw [ba_size] at h67
    refine Tri.pick 3 rfl (Tri.bnd (legFeedS (b := allB l) hK q2 Rd.row h67 (by omega)) ?_)
    rintro x68 _ ⟨h68, rfl⟩
    rw [← hes] at h68 ⊢
    refine Tri.bnd (same_spec (e1 := es) (e2 := es) hK Rd.row.tail.tail.tail hr2 Rd.row h68 (by omega)) ?_
    rintro _ _ ⟨rfl, rfl⟩
    rw [decide_eq_true rfl]
    simp only [if_true, bnd_ret, bnd_bnd, bnd_ite, bnd_lt, bnd_ldB, bnd_ldI, bnd_ldS, bnd_ldP, bnd_ldSl, bnd_ldG, bnd_nn, bnd_ixA, bnd_st, bnd_drw, bnd_strOf, bnd_new, bnd_slS, bnd_slA, bnd_slStr, bnd_app, bnd_appS, bnd_appT, bnd_appZ, bnd_chk, bnd_mk, bnd_cpy, bnd_wld, bnd_agr, bnd_bytesOf, bnd_drw2, bnd_mrk, bnd_fail, sumK_inl, sumK_inr, bnd_inr]
    have hcr : x.cr = (x0.feed (allB l)).1.cr := hE.cr
    have hw : x.wrong = (x0.feed (allB l)).1.wrong := congrArg Cr.wrong hcr
    have hg : x.got = (x0.feed (allB l)).1.got := congrArg Cr.got hcr
    have hs : x.sent = (x0.feed (allB l)).1.sent := congrArg Cr.sent hcr
    generalize (x0.feed (allB l)).1 = y at hw hg hs ⊢
    refine Tri.pick 5 rfl (Tri.bnd legWrongS ?_)
    rintro _ _ ⟨rfl, rfl⟩
    refine Tri.pick 2 rfl (Tri.bnd legWrongS ?_)
    rintro _ _ ⟨rfl, rfl⟩
    rw [hw]
    simp only [beq_self_eq_true, if_true, bnd_ret, bnd_bnd, bnd_ite, bnd_lt, bnd_ldB, bnd_ldI, bnd_ldS, bnd_ldP, bnd_ldSl, bnd_ldG, bnd_nn, bnd_ixA, bnd_st, bnd_drw, bnd_strOf, bnd_new, bnd_slS, bnd_slA, bnd_slStr, bnd_app, bnd_appS, bnd_appT, bnd_appZ, bnd_chk, bnd_mk, bnd_cpy, bnd_wld, bnd_agr, bnd_bytesOf, bnd_drw2, bnd_mrk, bnd_fail, sumK_inl, sumK_inr, bnd_inr]
    refine Tri.pick 1 rfl (Tri.bnd legGotS ?_)
    rintro _ _ ⟨rfl, rfl⟩
    refine Tri.pick 1 rfl (Tri.bnd legGotS ?_)
    rintro _ _ ⟨rfl, rfl⟩
    rw [hg]
    simp only [beq_self_eq_true, if_true, bnd_ret, bnd_bnd, bnd_ite, bnd_lt, bnd_ldB, bnd_ldI, bnd_ldS, bnd_ldP, bnd_ldSl, bnd_ldG, bnd_nn, bnd_ixA, bnd_st, bnd_drw, bnd_strOf, bnd_new, bnd_slS, bnd_slA, bnd_slStr, bnd_app, bnd_appS, bnd_appT, bnd_appZ, bnd_chk, bnd_mk, bnd_cpy, bnd_wld, bnd_agr, bnd_bytesOf, bnd_drw2, bnd_mrk, bnd_fail, sumK_inl, sumK_inr, bnd_inr]
    refine Tri.pick 1 rfl (Tri.bnd legSentS ?_)
    rintro _ _ ⟨rfl, rfl⟩
    refine Tri.pick 1 rfl (Tri.bnd legSentS ?_)
    rintro _ _ ⟨rfl, rfl⟩
    rw [hs]
    simp only [beq_self_eq_true]
    exact Tri.ret rfl
theorem legReads_walk {W : World} (b0 : Bool) {a1 : Option Addr} {len1 cap1 : Nat} {l1 : List ByteArray} (hl1 : len1 = l1.length) (hc1 : len1 ≤ maxLen) (ho1 : ∀ s ∈ l1, s.size ≤ maxLen) (hr1 : rdSl W ⟨a1, len1, cap1⟩ 1 = some (l1.flatMap strC))
    {a2 : Option Addr} {len2 cap2 : Nat} {l2 : List ByteArray} (hl2 : len2 = l2.length) (hc2 : len2 ≤ maxLen) (ho2 : ∀ s ∈ l2, s.size ≤ maxLen) (hr2 : rdSl W ⟨a2, len2, cap2⟩ 1 = some (l2.flatMap strC)) :
    Calls Try.prog 3 #[.bool b0, .slice a1 len1 cap1, .slice a2 len2 cap2] W fun e w' => e = .returned (.bool true) ∧ RowKit.Below W.heap.size W w' := by
  obtain ⟨K, hK, k1, k2⟩ : ∃ K, KBig K ∧ l1.length < K ∧ l2.length < K := ⟨1152921504606846976 + l1.length + l2.length, by unfold KBig; omega, by omega, by omega⟩
  simp only [maxLen] at hc1 hc2
  exact (law16_LegReads_ref K b0 ⟨a1, len1, cap1⟩ ⟨a2, len2, cap2⟩).call (legReads_spec hK k1 (by omega) k2 (by omega) (Rd.old hr1) hl1 (Rd.old hr2) hl2)
end Go.Proofs.Ytjdnjlnfcbaokaa

/-
  LAW BridgeLost, over its spec. Own work.
-/
import Derived.Test.YtjdnjlnfcbaokaaGreatLwBr
set_option linter.unusedVariables false
set_option linter.unusedSimpArgs false
set_option maxRecDepth 20000
namespace Go.Proofs.YtjdnjlnfcbaokaaGreat
open Go Go.Lg
variable {α β σ τ : Type} {ρ : Hp} {L M : As} {K : Nat}

theorem settle1_lost (x : Bm) (j k : Bool) : ((x.settle1 j).get k).lost = (x.get k).lost := by
  unfold Bm.settle1
  split <;> cases j <;> cases k <;> rfl
theorem settle1_q (x : Bm) (j : Bool) : ((x.settle1 j).get j).q = (x.get j).q := by
  unfold Bm.settle1
  split <;> cases j <;> rfl
theorem settle1_gone {x : Bm} {j : Bool} (h : (x.get j).lost = true) : ((x.settle1 j).get (!j)).q.l = [] := by
  unfold Bm.settle1
  rw [if_pos (Or.inl h)]
  cases j <;> rfl
theorem lose0_lost (x : Bm) (i : Bool) : ((x.lose0 i).get i).lost = true := by cases i <;> rfl
theorem lose_lost (x : Bm) (i : Bool) : ((x.lose i).get i).lost = true := by
  unfold Bm.lose Bm.settle
  rw [settle1_lost, settle1_lost, lose0_lost]
theorem lose_gone (x : Bm) (i : Bool) : ((x.lose i).get (!i)).q.l = [] := by
  unfold Bm.lose Bm.settle
  cases i with
  | false =>
    have e : ((((x.lose0 false).settle1 false).settle1 true).get true).q = (((x.lose0 false).settle1 false).get true).q := settle1_q _ true
    show ((((x.lose0 false).settle1 false).settle1 true).get true).q.l = []
    rw [e]
    exact settle1_gone (j := false) (lose0_lost x false)
  | true =>
    exact settle1_gone (j := true) (by rw [settle1_lost]; exact lose0_lost x true)
theorem feed_deaf {x : Bm} {i : Bool} {m : Nat} {s : List UInt8} (h : (x.get i).deaf = true) : x.feed i m s = (x, s.length) := by
  have e : x.feedB i m s = (x, 0) := by
    cases s with
    | nil => rfl
    | cons b r => rw [feedB_cons, if_pos (Or.inl h)]
  unfold Bm.feed
  rw [e]
  dsimp only
  rw [if_pos h]
theorem acts20_lost {p m : Nat} {c : Tapi_Config} {x0 : Bm} {sl : Sl} {acts : List Tref17_Act} (hK : KBig K) (hm : c.Message = (m : Int)) (hok : x0.Ok) (hf : x0.Fit) (h90 : ∀ i, cnt 9 (x0.get i).leg.ctl = 0)
    (hr : ∀ {L' : As}, Rd ρ L' sl 4 (ac7l acts)) (hl : sl.n = acts.length) (hw : ∀ t ∈ acts, act17Ok t) :
    Tri ρ (brI p c x0 :: L) (loopG (law17_BridgeLost_l0 K sl (some ⟨p, 0, none⟩, 0)) K 0) (fun _ L' => ∃ z : Bm, z.Ok ∧ z.Fit ∧ Keeps x0 z 40 ∧ L' = brI p c z :: L) := by
  refine Tri.loop (μ := fun (i : Int) => 41 - i.toNat) (I := fun (i : Int) L' => ∃ (j : Nat) (x : Bm), i = j ∧ j ≤ 20 ∧ x.Ok ∧ x.Fit ∧ Keeps x0 x (2 * j) ∧ L' = brI p c x :: L) ?_ (by unfold KBig at hK; simp; omega)
    ⟨0, x0, rfl, by omega, hok, hf, Keeps.refl x0, rfl⟩
  rintro again i L' ⟨j, x, rfl, hj, hok, hfit, hkp, rfl⟩ ih
  unfold law17_BridgeLost_l0
  refine Tri.val (decide (j < acts.length ∧ j < 20)) ?_ ?_
  · rw [hl]
    by_cases c1 : j < acts.length
    · have d1 : decide ((j : Int) < (acts.length : Int)) = true := by simp; omega
      rw [d1]
      simp only [if_true]
      exact Tri.ret ⟨by rw [Bool.eq_iff_iff]; simp only [decide_eq_true_eq]; omega, rfl⟩
    · have d1 : decide ((j : Int) < (acts.length : Int)) = false := by simp; omega
      rw [d1]
      simp only [Bool.false_eq_true, if_false]
      exact Tri.ret ⟨by rw [eq_comm, decide_eq_false]; omega, rfl⟩
  by_cases hc : j < acts.length ∧ j < 20
  · rw [decide_eq_true hc]
    simp only [if_true]
    obtain ⟨c1, c2⟩ := hc
    have hw1 : IntKind.wrap .i64 ((j : Int) + 1) = ((j + 1 : Nat) : Int) := by rw [w64 (by omega) (by omega)]; omega
    have hr' : Rd ρ (brI p c x :: L) sl 4 (ac7l acts) := hr
    refine Tri.ixA j hr' rfl (by omega) (by intro e; have e9 := congrArg List.length e; rw [ac7l_length, List.length_nil] at e9; omega) fun x290 h290 => ?_
    refine Tri.ldG acts[j] rfl (h290.cells hr' (by omega) (ac7l_get acts j c1) rfl) ?_
    refine Tri.new fun x292 => ?_
    refine Tri.stB (l := Agg.cells acts[j]) (by rfl) (by simp [Agg.cells]) rfl ?_
    have es2 : ∀ cs : List Value, cs.length = 4 → splice cs 0 (Agg.cells acts[j]) = Agg.cells acts[j] := by
      intro cs hc
      unfold splice
      rw [List.take_zero, List.nil_append, List.drop_eq_nil_of_le (by rw [hc]; simp [Agg.cells]), List.append_nil]
    rw [es2 _ rfl]
    refine Tri.ldG acts[j] rfl (Cells.here (i := 0) (by simp [Agg.cells]) rfl) ?_
    refine Tri.bnd few17_spec ?_
    rintro _ _ ⟨rfl, rfl⟩
    have hact := hw acts[j] (List.getElem_mem c1)
    generalize acts[j] = t at hact ⊢
    have h9 : ∀ i, cnt 9 (x.get i).leg.ctl < 549755813888 := fun i => by have := hkp.c9 i; rw [h90] at this; omega
    refine Tri.bnd (B := fun _ L' => ∃ z : Bm, z.Ok ∧ z.Fit ∧ Keeps x0 z (2 * (j + 1)) ∧ L' = brI p c z :: L) ?_ ?_
    · by_cases hfew : t.S.size ≤ 300
      · rw [decide_eq_true hfew]
        simp only [if_true]
        refine Tri.ldG t rfl (Cells.here (i := 0) (by simp [Agg.cells]) rfl) (Tri.drop ?_)
        refine Tri.bnd (play17_spec hK hm hok hfit h9 hact hfew) ?_
        rintro _ _ rfl
        obtain ⟨q1, q2⟩ := bact_ok hok hfit c m h9 t.Kind t.Side t.N t.S.data.toList
        exact Tri.ret ⟨_, q1, q2, hkp.trans (keeps_act x c m _ _ _ _) (by omega), rfl⟩
      · rw [decide_eq_false hfew]
        simp only [Bool.false_eq_true, if_false]
        exact Tri.drop (Tri.ret ⟨x, hok, hfit, hkp.weak (by omega), rfl⟩)
    · rintro _ _ ⟨z, z1, z2, zk, rfl⟩
      refine Tri.lt ?_
      rw [hw1]
      exact ih _ _ ⟨j + 1, z, rfl, by omega, z1, z2, zk, rfl⟩ (by simp; omega)
  · rw [decide_eq_false hc]
    simp only [Bool.false_eq_true, if_false]
    exact Tri.ret ⟨x, hok, hfit, hkp.weak (by omega), rfl⟩
theorem bridgeLost_spec {k : A5u8} {m s o n y draw : Nat} {side : Bool} {sl : Sl} {acts : List Tref17_Act} (hK : KBig K) (e0 : k.e0 = (m : Int)) (e1 : k.e1 = (s : Int)) (e2 : k.e2 = (o : Int)) (e3 : k.e3 = (n : Int)) (e4 : k.e4 = (y : Int)) (hm : m < 256) (hs : s < 256) (ho : o < 256) (hn : n < 256) (hy : y < 256) (hd : draw < 4294967296)
    (hr : ∀ {L' : As}, Rd ρ L' sl 4 (ac7l acts)) (hl : sl.n = acts.length) (hw : ∀ t ∈ acts, act17Ok t) : Tri ρ [] (law17_BridgeLost K k draw sl side) (fun r _ => r = true) := by
  unfold law17_BridgeLost
  refine Tri.new fun x1 => Tri.ldG k rfl (Cells.here (i := 0) (by simp) (by rfl)) (Tri.drop ?_)
  refine Tri.bnd (config5_spec e0 e1 e2 e3 e4 hm hs ho hn hy) ?_
  rintro _ _ ⟨b, rfl, rfl⟩
  refine Tri.new fun x4 => ?_
  refine Tri.stB (l := Agg.cells (cfg5 b m s o n y)) (by rfl) (by simp [Agg.cells]) rfl ?_
  rw [cfgSplice _ _ rfl]
  refine Tri.ldG (cfg5 b m s o n y) rfl (Cells.here (i := 0) (by simp [Agg.cells]) rfl) ?_
  refine Tri.pick 1 rfl (Tri.bnd (bridge0_spec hK hm hs ho hy hd) ?_)
  rintro _ _ ⟨p, rfl, rfl⟩
  refine Tri.bnd (awake17_spec hK) ?_
  rintro _ _ ⟨rfl, rfl⟩
  have hd0 : ((0 : Int) != 0) = false := rfl
  simp only [Bool.not_true, Bool.false_eq_true, if_false, bnd_ret, hd0, Option.isNone_some]
  obtain ⟨f0, f1⟩ := Bm.new_ok (message := 1 + m) (frame := 1 + s) (out := 1 + o) (count := 1 + n % 8) (bytes := 1 + m + y) (draw := draw) (by omega) (by omega) hd
  have cM : (cfg5 b m s o n y).Message = ((1 + m : Nat) : Int) := rfl
  have h90 : ∀ j, cnt 9 ((Bm.new (1 + m) (1 + s) (1 + o) (1 + n % 8) (1 + m + y) draw).get j).leg.ctl = 0 := fun j => by cases j <;> rfl
  generalize Bm.new (1 + m) (1 + s) (1 + o) (1 + n % 8) (1 + m + y) draw = x0 at f0 f1 h90 ⊢
  generalize cfg5 b m s o n y = c at cM ⊢
  refine Tri.bnd (acts20_lost hK cM f0 f1 h90 hr hl hw) ?_
  rintro _ _ ⟨x, hok, hfit, -, rfl⟩
  refine Tri.val (ix side) ?_ ?_
  · cases side <;> exact Tri.ret ⟨rfl, rfl⟩
  refine Tri.bnd (brLose_spec hK hok hfit) ?_
  rintro _ _ rfl
  obtain ⟨q1, q2⟩ := lose_ok hok hfit side
  have hlost := lose_lost x side
  have hgone := lose_gone x side
  generalize x.lose side = z at q1 q2 hlost hgone ⊢
  rw [ix_wrap]
  refine Tri.bnd brWaiting_spec ?_
  rintro _ _ ⟨rfl, rfl⟩
  rw [hgone]
  refine Tri.bnd brLost_spec ?_
  rintro _ _ ⟨rfl, rfl⟩
  rw [hlost]
  simp only [if_true, bnd_ret, bnd_bnd, bnd_ite, bnd_lt, bnd_ldB, bnd_ldI, bnd_ldS, bnd_ldP, bnd_ldSl, bnd_ldG, bnd_nn, bnd_ixA, bnd_st, bnd_drw, bnd_strOf, bnd_new, bnd_slS, bnd_slA, bnd_slStr, bnd_app, bnd_appS, bnd_appT, bnd_appZ, bnd_chk, bnd_mk, bnd_cpy, bnd_wld, bnd_agr, bnd_bytesOf, bnd_drw2, bnd_mrk, bnd_fail, sumK_inl, sumK_inr, bnd_inr]
  have pk : z.peek side 100 = [] := by unfold Bm.peek; rw [if_pos hlost]
  have ot : z.out' side 100 = z := by unfold Bm.out'; rw [if_pos hlost]
  have df : (z.get side).deaf = true := by unfold Sd.deaf; rw [hlost]; rfl
  have i0 : (((([] : List UInt8).length : Nat) : Int) == 0) = true := rfl
  have i1 : (((([] : List Ev).length : Nat) : Int) == 0) = true := rfl
  refine Tri.bnd (brTake_spec hK q1 q2 (by omega)) ?_
  rintro r1 _ ⟨h1, rfl⟩
  rw [h1, pk, ot, i0]
  simp only [if_true, bnd_ret, bnd_bnd, bnd_ite, bnd_lt, bnd_ldB, bnd_ldI, bnd_ldS, bnd_ldP, bnd_ldSl, bnd_ldG, bnd_nn, bnd_ixA, bnd_st, bnd_drw, bnd_strOf, bnd_new, bnd_slS, bnd_slA, bnd_slStr, bnd_app, bnd_appS, bnd_appT, bnd_appZ, bnd_chk, bnd_mk, bnd_cpy, bnd_wld, bnd_agr, bnd_bytesOf, bnd_drw2, bnd_mrk, bnd_fail, sumK_inl, sumK_inr, bnd_inr]
  refine Tri.drop ?_
  refine Tri.bnd (brPeek_spec (by omega)) ?_
  rintro r2 _ ⟨h2, rfl⟩
  rw [h2, pk, i0]
  simp only [if_true, bnd_ret, bnd_bnd, bnd_ite, bnd_lt, bnd_ldB, bnd_ldI, bnd_ldS, bnd_ldP, bnd_ldSl, bnd_ldG, bnd_nn, bnd_ixA, bnd_st, bnd_drw, bnd_strOf, bnd_new, bnd_slS, bnd_slA, bnd_slStr, bnd_app, bnd_appS, bnd_appT, bnd_appZ, bnd_chk, bnd_mk, bnd_cpy, bnd_wld, bnd_agr, bnd_bytesOf, bnd_drw2, bnd_mrk, bnd_fail, sumK_inl, sumK_inr, bnd_inr]
  refine Tri.drop ?_
  have el : ([.int .u8 (97 : Int), .int .u8 (98 : Int), .int .u8 (99 : Int)] : List Value) = bl [97, 98, 99] := rfl
  rw [el]
  refine Tri.new fun x5 => Tri.mrk ?_
  refine Tri.pick 1 rfl (Tri.bnd (brFeed_spec (m := 1 + m) hK cM q1 q2 (Rd.lit (l := [97, 98, 99])) rfl (by decide)) ?_)
  rintro _ _ ⟨rfl, rfl⟩
  rw [feed_deaf df]
  have i3 : (((([97, 98, 99] : List UInt8).length : Nat) : Int) == 3) = true := rfl
  dsimp only
  rw [i3, i1]
  simp only [if_true, bnd_ret, bnd_bnd, bnd_ite, bnd_lt, bnd_ldB, bnd_ldI, bnd_ldS, bnd_ldP, bnd_ldSl, bnd_ldG, bnd_nn, bnd_ixA, bnd_st, bnd_drw, bnd_strOf, bnd_new, bnd_slS, bnd_slA, bnd_slStr, bnd_app, bnd_appS, bnd_appT, bnd_appZ, bnd_chk, bnd_mk, bnd_cpy, bnd_wld, bnd_agr, bnd_bytesOf, bnd_drw2, bnd_mrk, bnd_fail, sumK_inl, sumK_inr, bnd_inr]
  refine Tri.new fun x6 => Tri.mrk ?_
  refine Tri.pick 1 rfl (Tri.bnd (brNone_feed (by omega)) ?_)
  rintro _ _ ⟨rfl, rfl⟩
  have i2 : ((0 : Int) == 0) = true := rfl
  rw [i2]
  simp only [if_true, bnd_ret, bnd_bnd, bnd_ite, bnd_lt, bnd_ldB, bnd_ldI, bnd_ldS, bnd_ldP, bnd_ldSl, bnd_ldG, bnd_nn, bnd_ixA, bnd_st, bnd_drw, bnd_strOf, bnd_new, bnd_slS, bnd_slA, bnd_slStr, bnd_app, bnd_appS, bnd_appT, bnd_appZ, bnd_chk, bnd_mk, bnd_cpy, bnd_wld, bnd_agr, bnd_bytesOf, bnd_drw2, bnd_mrk, bnd_fail, sumK_inl, sumK_inr, bnd_inr]
  refine Tri.bnd (brNone_lost (by omega)) ?_
  rintro _ _ ⟨rfl, rfl⟩
  exact Tri.ret rfl
theorem bridgeLost_walk {W : World} {l0 : List Int} (hn0 : l0.length = 5) (hw0 : ∀ x ∈ l0, (Lit.int .u8 x).wf = true) {a1 : Int} (w1 : (Lit.int .u32 a1).wf = true) {a2 : Option Addr} {len2 cap2 : Nat} {l2 : List Tref17_Act} (hl2 : len2 = l2.length) (hc2 : len2 ≤ maxLen) (ho2 : ∀ t ∈ l2, act17Ok t)
    (hr2 : rdSl W ⟨a2, len2, cap2⟩ 4 = some (l2.flatMap fun t => Agg.cells t)) (a3 : Bool) :
    Calls Tryz.prog 14 #[.agg (l0.map (Value.int .u8)).toArray, .int .u32 a1, .slice a2 len2 cap2, .bool a3] W fun e w' => e = .returned (.bool true) ∧ RowKit.Below W.heap.size W w' := by
  obtain ⟨x, y, z, u, v, rfl, hx, hy, hz, hu, hv⟩ := five hn0 hw0
  obtain ⟨d, rfl, hd⟩ := u32n w1
  obtain ⟨K, hK⟩ : ∃ K, KBig K := ⟨_, Nat.le_refl _⟩
  exact (law17_BridgeLost_ref K ⟨(x : Int), (y : Int), (z : Int), (u : Int), (v : Int)⟩ (d : Int) ⟨a2, len2, cap2⟩ a3).call (bridgeLost_spec hK rfl rfl rfl rfl rfl hx hy hz hu hv hd (Rd.old hr2) hl2 ho2)
end Go.Proofs.YtjdnjlnfcbaokaaGreat

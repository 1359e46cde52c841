/-
  LAW BridgeBound, over its spec. Own work.
-/
import Derived.Test.YtjdnjlnfcbaokaaGreatLwBr
set_option linter.unusedVariables false
set_option linter.unusedSimpArgs false
set_option maxRecDepth 20000
namespace Go.Proofs.YtjdnjlnfcbaokaaGreat
open Go Go.Lg
variable {α β σ τ : Type} {ρ : Hp} {L M : As} {K : Nat}

theorem brFactI {p : Nat} {c : Tapi_Config} {x : Bm} {m : G β} {C : β → As → Prop} (h : (∀ i, LegAt c (x.get i).leg) → (∀ i, (x.get i).q.Ok) → Tri ρ (brI p c x :: L) m C) : Tri ρ (brI p c x :: L) m C :=
  brFact fun h1 h2 h3 h4 => h (fun i => by cases i <;> first | exact h1 | exact h2) (fun i => by cases i <;> first | exact h3 | exact h4)
theorem bridgeBound_spec {k : A5u8} {m s o n y draw : Nat} {sl : Sl} {acts : List Tref17_Act} (hK : KBig K) (e0 : k.e0 = (m : Int)) (e1 : k.e1 = (s : Int)) (e2 : k.e2 = (o : Int)) (e3 : k.e3 = (n : Int)) (e4 : k.e4 = (y : Int)) (hm : m < 256) (hs : s < 256) (ho : o < 256) (hn : n < 256) (hy : y < 256) (hd : draw < 4294967296)
    (hr : Rd ρ [] sl 4 (ac7l acts)) (hl : sl.n = acts.length) (hw : ∀ t ∈ acts, act17Ok t) : Tri ρ [] (law17_BridgeBound K k draw sl) (fun r _ => r = true) := by
  unfold law17_BridgeBound
  refine Tri.new fun x1 => Tri.ldG k rfl (Cells.here (i := 0) (by simp) (by rfl)) (Tri.drop ?_)
  refine Tri.bnd (config5_spec e0 e1 e2 e3 e4 hm hs ho hn hy) ?_
  rintro _ _ ⟨b, rfl, rfl⟩
  refine Tri.new fun x4 => ?_
  refine Tri.stB (l := Agg.cells (cfg5 b m s o n y)) (by rfl) (by simp [Agg.cells]) rfl ?_
  rw [cfgSplice _ _ rfl]
  refine Tri.ldG (cfg5 b m s o n y) rfl (Cells.here (i := 0) (by simp [Agg.cells]) rfl) ?_
  refine Tri.pick 1 rfl (Tri.bnd (bridge0_spec hK hm hs ho hy hd) ?_)
  rintro _ _ ⟨p, rfl, rfl⟩
  refine Tri.bnd (awake17_spec hK) ?_
  rintro _ _ ⟨rfl, rfl⟩
  have hd0 : ((0 : Int) != 0) = false := rfl
  simp only [Bool.not_true, Bool.false_eq_true, if_false, bnd_ret, hd0, Option.isNone_some]
  obtain ⟨f0, f1⟩ := Bm.new_ok (message := 1 + m) (frame := 1 + s) (out := 1 + o) (count := 1 + n % 8) (bytes := 1 + m + y) (draw := draw) (by omega) (by omega) hd
  have cM : (cfg5 b m s o n y).Message = ((1 + m : Nat) : Int) := rfl
  have cO : (cfg5 b m s o n y).Out = ((1 + o : Nat) : Int) := rfl
  have cC : (cfg5 b m s o n y).Count = ((1 + n % 8 : Nat) : Int) := rfl
  have cB : (cfg5 b m s o n y).Bytes = ((1 + m + y : Nat) : Int) := rfl
  have hcap : ∀ j, ((Bm.new (1 + m) (1 + s) (1 + o) (1 + n % 8) (1 + m + y) draw).get j).q.cap = (1 + n % 8, 1 + m + y) := fun j => by cases j <;> rfl
  have h90 : ∀ j, cnt 9 ((Bm.new (1 + m) (1 + s) (1 + o) (1 + n % 8) (1 + m + y) draw).get j).leg.ctl = 0 := fun j => by cases j <;> rfl
  generalize Bm.new (1 + m) (1 + s) (1 + o) (1 + n % 8) (1 + m + y) draw = x0 at f0 f1 hcap h90 ⊢
  generalize cfg5 b m s o n y = c at cM cO cC cB ⊢
  refine Tri.bndS (D := fun _ _ => True) ?_ (fun _ _ _ => Tri.ret rfl)
  refine Tri.loop (μ := fun (i : Int) => 41 - i.toNat) (I := fun (i : Int) L' => ∃ (j : Nat) (x : Bm), i = j ∧ j ≤ 40 ∧ x.Ok ∧ x.Fit ∧ Keeps x0 x (2 * j) ∧ L' = [brI p c x, pts b rtC, pts x4 (Agg.cells c)]) ?_ (by unfold KBig at hK; simp; omega)
    ⟨0, x0, rfl, by omega, f0, f1, Keeps.refl x0, rfl⟩
  rintro again i L' ⟨j, x, rfl, hj, hok, hfit, hkp, rfl⟩ ih
  unfold law17_BridgeBound_l1
  refine Tri.val (decide (j < acts.length ∧ j < 40)) ?_ ?_
  · rw [hl]
    by_cases c1 : j < acts.length
    · have d1 : decide ((j : Int) < (acts.length : Int)) = true := by simp; omega
      rw [d1]
      simp only [if_true]
      exact Tri.ret ⟨by rw [Bool.eq_iff_iff]; simp only [decide_eq_true_eq]; omega, rfl⟩
    · have d1 : decide ((j : Int) < (acts.length : Int)) = false := by simp; omega
      rw [d1]
      simp only [Bool.false_eq_true, if_false]
      exact Tri.ret ⟨by rw [eq_comm, decide_eq_false]; omega, rfl⟩
  by_cases hc : j < acts.length ∧ j < 40
  · rw [decide_eq_true hc]
    simp only [if_true]
    obtain ⟨c1, c2⟩ := hc
    have hw1 : IntKind.wrap .i64 ((j : Int) + 1) = ((j + 1 : Nat) : Int) := by rw [w64 (by omega) (by omega)]; omega
    have hr' : Rd ρ [brI p c x, pts b rtC, pts x4 (Agg.cells c)] sl 4 (ac7l acts) := hr.tail.tail.tail
    refine Tri.bndS (D := fun _ L' => ∃ z : Bm, z.Ok ∧ z.Fit ∧ Keeps x0 z (2 * (j + 1)) ∧ L' = [brI p c z, pts b rtC, pts x4 (Agg.cells c)]) ?_ ?_
    · refine Tri.ixA j hr' rfl (by omega) (by intro e; have e9 := congrArg List.length e; rw [ac7l_length, List.length_nil] at e9; omega) fun x290 h290 => ?_
      refine Tri.ldG acts[j] rfl (h290.cells hr' (by omega) (ac7l_get acts j c1) rfl) ?_
      refine Tri.new fun x292 => ?_
      refine Tri.stB (l := Agg.cells acts[j]) (by rfl) (by simp [Agg.cells]) rfl ?_
      have es2 : ∀ cs : List Value, cs.length = 4 → splice cs 0 (Agg.cells acts[j]) = Agg.cells acts[j] := by
        intro cs hc
        unfold splice
        rw [List.take_zero, List.nil_append, List.drop_eq_nil_of_le (by rw [hc]; simp [Agg.cells]), List.append_nil]
      rw [es2 _ rfl]
      refine Tri.ldG acts[j] rfl (Cells.here (i := 0) (by simp [Agg.cells]) rfl) ?_
      refine Tri.bnd few17_spec ?_
      rintro _ _ ⟨rfl, rfl⟩
      have hact := hw acts[j] (List.getElem_mem c1)
      generalize acts[j] = t at hact ⊢
      have h9 : ∀ i, cnt 9 (x.get i).leg.ctl < 549755813888 := fun i => by have := hkp.c9 i; rw [h90] at this; omega
      refine Tri.bnd (B := fun _ L' => ∃ z : Bm, z.Ok ∧ z.Fit ∧ Keeps x0 z (2 * (j + 1)) ∧ L' = [brI p c z, pts b rtC, pts x4 (Agg.cells c)]) ?_ ?_
      · by_cases hfew : t.S.size ≤ 300
        · rw [decide_eq_true hfew]
          simp only [if_true]
          refine Tri.ldG t rfl (Cells.here (i := 0) (by simp [Agg.cells]) rfl) (Tri.drop ?_)
          refine Tri.bnd (play17_spec hK cM hok hfit h9 hact hfew) ?_
          rintro _ _ rfl
          obtain ⟨q1, q2⟩ := bact_ok hok hfit c (1 + m) h9 t.Kind t.Side t.N t.S.data.toList
          exact Tri.ret ⟨_, q1, q2, hkp.trans (keeps_act x c (1 + m) _ _ _ _) (by omega), rfl⟩
        · rw [decide_eq_false hfew]
          simp only [Bool.false_eq_true, if_false]
          exact Tri.drop (Tri.ret ⟨x, hok, hfit, hkp.weak (by omega), rfl⟩)
      · rintro _ _ ⟨z, z1, z2, zk, rfl⟩
        -- both sides
        refine Tri.loop (μ := fun (i : Int) => 3 - i.toNat) (I := fun (i : Int) L' => ∃ (k : Nat), i = k ∧ k ≤ 2 ∧ L' = [brI p c z, pts b rtC, pts x4 (Agg.cells c)]) ?_ (by unfold KBig at hK; simp; omega) ⟨0, rfl, by omega, rfl⟩
        rintro again2 _ L' ⟨k2, rfl, hk2, rfl⟩ ih2
        unfold law17_BridgeBound_l0
        by_cases ck : k2 < 2
        · have hd : decide ((k2 : Int) < 2) = true := by simp; omega
          rw [hd]
          simp only [if_true]
          obtain ⟨i, hi⟩ : ∃ i : Bool, (k2 : Int) = ix i := by
            match k2, ck with
            | 0, _ => exact ⟨false, rfl⟩
            | 1, _ => exact ⟨true, rfl⟩
          have hw2 : IntKind.wrap .i64 ((k2 : Int) + 1) = ((k2 + 1 : Nat) : Int) := by rw [w64 (by omega) (by omega)]; omega
          rw [hw2, hi]
          refine brFactI fun hat hqo => ?_
          refine Tri.bnd brWaiting_spec ?_
          rintro _ _ ⟨rfl, rfl⟩
          have hq := hqo i
          have hring := (hat i).ring
          have hout : ((z.get i).leg.out : Int) = ((1 + o : Nat) : Int) := by rw [← (hat i).cfg.2.2, cO]
          have hcp := zk.cap i
          rw [hcap] at hcp
          simp only [Qm.cap, Prod.mk.injEq] at hcp
          have hlen := hq.len
          have hsize := hq.size
          have c7 : ∀ {A B : Assn} {L' : As}, Cell ρ (A :: B :: pts x4 (Agg.cells c) :: L') ⟨x4, 7, none⟩ (.int .i64 c.Out) := (Cell.here (i := 7) rfl).tail.tail
          have a7 : (⟨x4, 0, none⟩ : Addr).add 7 = ⟨x4, 7, none⟩ := rfl
          dsimp only
          refine Tri.val false ?_ ?_
          · refine Tri.drw ?_
            have d1 : decide (((z.get i).q.l.length : Int) < 0) = false := by simp
            have d2 : decide (((sizeQ (z.get i).q.l : Nat) : Int) < 0) = false := by simp
            rw [d1, d2]
            simp only [Bool.false_eq_true, if_false]
            refine Tri.ldI (v := c.Count) (Cell.here (i := 5) rfl).tail.tail ?_
            have d3 : decide (c.Count < ((z.get i).q.l.length : Int)) = false := by rw [cC]; simp; omega
            rw [d3]
            simp only [Bool.false_eq_true, if_false]
            refine Tri.ldI (v := c.Bytes) (Cell.here (i := 6) rfl).tail.tail ?_
            have d4 : decide (c.Bytes < ((sizeQ (z.get i).q.l : Nat) : Int)) = false := by rw [cB]; simp; omega
            rw [d4]
            simp only [Bool.false_eq_true, if_false]
            rw [a7]
            refine Tri.wld1 c7 fun w324 h324 => Tri.ldI c7 ?_
            refine Tri.bnd (brPeek_spec (by omega)) ?_
            rintro x325 _ ⟨h325, rfl⟩
            refine Tri.agr1 h324 c7.tail (Tri.drop (Tri.ret ⟨?_, rfl⟩))
            have hp : (z.peek i 70000).length ≤ (z.get i).leg.out := by
              unfold Bm.peek Lm.peek
              split
              · simp
              · simp; omega
            rw [h325, cO, decide_eq_false]; omega
          · simp only [Bool.false_eq_true, if_false]
            refine Tri.lt ?_
            exact ih2 _ _ ⟨k2 + 1, rfl, by omega, rfl⟩ (by simp; omega)
        · have hd : decide ((k2 : Int) < 2) = false := by simp; omega
          rw [hd]
          simp only [Bool.false_eq_true, if_false]
          exact Tri.ret ⟨z, z1, z2, zk, rfl⟩
    · rintro _ _ ⟨z, z1, z2, zk, rfl⟩
      refine Tri.lt ?_
      rw [hw1]
      exact ih _ _ ⟨j + 1, z, rfl, by omega, z1, z2, zk, rfl⟩ (by simp; omega)
  · rw [decide_eq_false hc]
    simp only [Bool.false_eq_true, if_false]
    exact Tri.ret trivial
theorem bridgeBound_walk {W : World} {l0 : List Int} (hn0 : l0.length = 5) (hw0 : ∀ x ∈ l0, (Lit.int .u8 x).wf = true) {a1 : Int} (w1 : (Lit.int .u32 a1).wf = true) {a2 : Option Addr} {len2 cap2 : Nat} {l2 : List Tref17_Act} (hl2 : len2 = l2.length) (hc2 : len2 ≤ maxLen) (ho2 : ∀ t ∈ l2, act17Ok t)
    (hr2 : rdSl W ⟨a2, len2, cap2⟩ 4 = some (l2.flatMap fun t => Agg.cells t)) :
    Calls Tryz.prog 12 #[.agg (l0.map (Value.int .u8)).toArray, .int .u32 a1, .slice a2 len2 cap2] W fun e w' => e = .returned (.bool true) ∧ RowKit.Below W.heap.size W w' := by
  obtain ⟨x, y, z, u, v, rfl, hx, hy, hz, hu, hv⟩ := five hn0 hw0
  obtain ⟨d, rfl, hd⟩ := u32n w1
  obtain ⟨K, hK⟩ : ∃ K, KBig K := ⟨_, Nat.le_refl _⟩
  exact (law17_BridgeBound_ref K ⟨(x : Int), (y : Int), (z : Int), (u : Int), (v : Int)⟩ (d : Int) ⟨a2, len2, cap2⟩).call (bridgeBound_spec hK rfl rfl rfl rfl rfl hx hy hz hu hv hd (Rd.old hr2) hl2 ho2)
end Go.Proofs.YtjdnjlnfcbaokaaGreat

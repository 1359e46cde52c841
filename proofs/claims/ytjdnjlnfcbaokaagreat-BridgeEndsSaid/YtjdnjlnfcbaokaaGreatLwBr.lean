/-
  LAWS of a session, common: acts; what stays. Own work.
-/
import Derived.Test.YtjdnjlnfcbaokaaGreatSp26
import Derived.Test.YtjdnjlnfcbaokaaGreatLwCom
set_option linter.unusedVariables false
set_option linter.unusedSimpArgs false
set_option maxRecDepth 20000
namespace Go.Proofs.YtjdnjlnfcbaokaaGreat
open Go Go.Lg
variable {α β σ τ : Type} {ρ : Hp} {L M : As} {K : Nat}

/-! ### 1. What stays: the queues' bounds; pings only by time -/
def Qm.cap (q : Qm) : Nat × Nat := (q.count, q.bytes)
structure Keeps (x y : Bm) (n : Nat) : Prop where
  cap : ∀ j, (y.get j).q.cap = (x.get j).q.cap
  c9 : ∀ j, cnt 9 (y.get j).leg.ctl ≤ cnt 9 (x.get j).leg.ctl + n
theorem Keeps.refl (x : Bm) : Keeps x x 0 := ⟨fun _ => rfl, fun _ => Nat.le_refl _⟩
theorem Keeps.trans {x y z : Bm} {m n k : Nat} (h : Keeps x y m) (g : Keeps y z n) (hk : m + n ≤ k) : Keeps x z k :=
  ⟨fun j => (g.cap j).trans (h.cap j), fun j => by have := h.c9 j; have := g.c9 j; omega⟩
theorem Keeps.weak {x y : Bm} {m n : Nat} (h : Keeps x y m) (hm : m ≤ n) : Keeps x y n := ⟨h.cap, fun j => Nat.le_trans (h.c9 j) (by omega)⟩
theorem Keeps.set {x : Bm} {i : Bool} {s : Sd} {n : Nat} (h1 : s.q.cap = (x.get i).q.cap) (h2 : cnt 9 s.leg.ctl ≤ cnt 9 (x.get i).leg.ctl + n) : Keeps x (x.set i s) n := by
  refine ⟨fun j => ?_, fun j => ?_⟩
  · by_cases e : j = i
    · subst e; rw [get_set]; exact h1
    · have : j = !i := by cases i <;> cases j <;> simp_all
      subst this; rw [get_set']
  · by_cases e : j = i
    · subst e; rw [get_set]; exact h2
    · have : j = !i := by cases i <;> cases j <;> simp_all
      subst this; rw [get_set']; exact Nat.le_add_right _ _
theorem Keeps.trans0 {x y z : Bm} (h : Keeps x y 0) (g : Keeps y z 0) : Keeps x z 0 := h.trans g (by omega)
theorem Keeps.set0 {x : Bm} {i : Bool} {s : Sd} (h1 : s.q.cap = (x.get i).q.cap) (h2 : cnt 9 s.leg.ctl ≤ cnt 9 (x.get i).leg.ctl) : Keeps x (x.set i s) 0 := Keeps.set h1 h2
theorem drain_c9 : ∀ (es : List Ev) (x : Lm), cnt 9 (x.drain es).1.ctl ≤ cnt 9 x.ctl
  | [], x => Nat.le_refl _
  | e :: r, x => by
    rw [drain_cons]
    split
    · exact Nat.le_trans (drain_c9 r _) (kin_send x e).2
    · exact Nat.le_refl _
theorem keeps_settle1 (x : Bm) (i : Bool) : Keeps x (x.settle1 i) 0 := by
  unfold Bm.settle1
  split
  · exact Keeps.set0 rfl (Nat.le_refl _)
  · have h1 := drain_c9 (x.get (!i)).q.l (x.get i).leg
    generalize (x.get i).leg.drain (x.get (!i)).q.l = d at h1 ⊢
    have k1 : ∀ y : Lm, cnt 9 y.ctl ≤ cnt 9 (x.get i).leg.ctl → Keeps x (x.set i { x.get i with leg := y }) 0 := fun y hy => Keeps.set0 rfl hy
    have k2 : ∀ (y : Lm) (r : List Ev), Keeps (x.set i { x.get i with leg := y }) ((x.set i { x.get i with leg := y }).set (!i) { x.get (!i) with q := { (x.get (!i)).q with l := r } }) 0 := fun y r => Keeps.set0 (by rw [get_set']; rfl) (by rw [get_set']; exact Nat.le_refl _)
    refine (k1 _ ?_).trans0 (k2 _ _)
    split
    · exact Nat.le_trans (kin_close _ _ _).2 h1
    · exact h1
theorem keeps_settle (x : Bm) : Keeps x x.settle 0 := (keeps_settle1 x false).trans0 (keeps_settle1 _ true)
theorem put_cap (q : Qm) (e : Ev) : (q.put e).cap = q.cap := by unfold Qm.put; split <;> rfl
theorem keeps_put1 (x : Bm) (i : Bool) (e : Ev) : Keeps x (x.put1 i e) 0 := by
  unfold Bm.put1
  split
  · exact Keeps.set0 (put_cap _ _) (Nat.le_refl _)
  · split
    · exact Keeps.set0 (by rw [(end__leg _ _).2]) (by rw [(end__leg _ _).1]; exact Nat.le_refl _)
    · exact Keeps.refl x
theorem keeps_puts (i : Bool) : ∀ (es : List Ev) (x : Bm), Keeps x (es.foldl (fun y e => y.put1 i e) x) 0
  | [], x => Keeps.refl x
  | e :: es, x => (keeps_put1 x i e).trans0 (keeps_puts i es _)
theorem keeps_hear (x : Bm) (i : Bool) (b : UInt8) : Keeps x (x.hear i b) 0 := by
  unfold Bm.hear
  refine Keeps.trans0 ?_ (keeps_settle _)
  have h1 : Keeps x (x.hear1 i b) 0 := Keeps.set0 rfl (kin_feed _ _).2
  have h2 : Keeps x (x.hear2 i b) 0 := h1.trans0 (keeps_puts i _ _)
  generalize x.hear2 i b = y at h2 ⊢
  split
  · exact h2.trans0 (Keeps.set0 (by rw [(end__leg _ _).2]) (by rw [(end__leg _ _).1]; exact Nat.le_refl _))
  · exact h2
theorem keeps_feedB {i : Bool} {m : Nat} : ∀ (s : List UInt8) (x : Bm), Keeps x (x.feedB i m s).1 0
  | [], x => Keeps.refl x
  | b :: r, x => by
    rw [feedB_cons]
    split
    · exact Keeps.refl x
    · exact (keeps_hear x i b).trans0 (keeps_feedB r _)
theorem keeps_out (x : Bm) (i : Bool) (n : Int) : Keeps x (x.out' i n) 0 := by
  unfold Bm.out'
  split
  · exact Keeps.refl x
  · have h1 : Keeps x (x.set i { x.get i with leg := (x.get i).leg.out' n }) 0 := Keeps.set0 rfl (kin_out _ _).2
    exact h1.trans0 (keeps_settle _)
theorem keeps_lose0 (x : Bm) (i : Bool) : Keeps x (x.lose0 i) 0 := by
  unfold Bm.lose0
  have h1 : Keeps x (x.set i { x.get i with lost := true }) 0 := Keeps.set0 rfl (Nat.le_refl _)
  have h2 : Keeps (x.set i { x.get i with lost := true }) ((x.set i { x.get i with lost := true }).set (!i) ((x.get (!i)).end_ 1011)) 0 := Keeps.set0 (by rw [get_set', (end__leg _ _).2]) (by rw [get_set', (end__leg _ _).1]; exact Nat.le_refl _)
  exact h1.trans0 h2
theorem keeps_lose (x : Bm) (i : Bool) : Keeps x (x.lose i) 0 := (keeps_lose0 x i).trans0 (keeps_settle _)
theorem keeps_tick1 (x : Bm) (i : Bool) (c : Tapi_Config) (n : Int) : Keeps x (x.tick1 i c n) 1 := by
  have a1 : ∀ (e : Int) (b : Bool), Keeps x (x.set i { x.get i with ending := e, lost := b }) 0 := fun e b => Keeps.set0 rfl (Nat.le_refl _)
  have a2 : ∀ (e : Int), Keeps x (x.set i { x.get i with heard := e }) 0 := fun e => Keeps.set0 rfl (Nat.le_refl _)
  have a3 : Keeps x (x.set i { x.get i with heard := 0, asked := true, leg := ((x.get i).leg.ping []).1 }) 1 := Keeps.set rfl (kin_ping _ _).2
  unfold Bm.tick1
  split
  · exact (Keeps.refl x).weak (by omega)
  · unfold Bm.tick0
    split
    · exact (a1 _ _).weak (by omega)
    · split
      · exact ((a2 _).trans0 (keeps_lose0 _ i)).weak (by omega)
      · split
        · exact a3
        · exact (a2 _).weak (by omega)
theorem keeps_tick (x : Bm) (c : Tapi_Config) (n : Int) : Keeps x (x.tick c n) 2 :=
  ((keeps_tick1 x false c n).trans (keeps_tick1 _ true c n) (k := 2) (by omega)).trans (keeps_settle _) (by omega)
/-! ### 2. Acts -/
def Bm.act (x : Bm) (c : Tapi_Config) (m : Nat) (k side n : Int) (s : List UInt8) : Bm :=
  if k = 0 then (if side = 0 ∨ side = 1 then (x.feed (decide (side = 1)) m s).1 else x)
  else if k = 1 then (if side = 0 ∨ side = 1 then x.out' (decide (side = 1)) n else x)
  else if k = 2 then x.tick c n
  else if k = 3 then (if side = 0 ∨ side = 1 then x.lose (decide (side = 1)) else x)
  else x
theorem tick_ok {x : Bm} (hok : x.Ok) (hf : x.Fit) (c : Tapi_Config) (n : Int) (h9 : ∀ i, cnt 9 (x.get i).leg.ctl < 549755813888) : (x.tick c n).Ok ∧ (x.tick c n).Fit := by
  have h9t : cnt 9 ((x.tick1 false c n).get true).leg.ctl < 549755813888 := by
    unfold Bm.tick1
    split
    · exact h9 true
    · rw [(tick0_c9 x false c _).1 true rfl]; exact h9 true
  obtain ⟨q1, q2⟩ := tick1_ok hok hf false c n (h9 false)
  obtain ⟨r1, r2⟩ := tick1_ok q1 q2 true c n h9t
  exact settle_ok r1 r2
theorem lose_ok {x : Bm} (hok : x.Ok) (hf : x.Fit) (i : Bool) : (x.lose i).Ok ∧ (x.lose i).Fit := by
  obtain ⟨q1, q2⟩ := Bm.ok_of (y := x.lose0 i) hok hf (lose0_leg x i)
  exact settle_ok q1 q2
theorem bact_ok {x : Bm} (hok : x.Ok) (hf : x.Fit) (c : Tapi_Config) (m : Nat) (h9 : ∀ i, cnt 9 (x.get i).leg.ctl < 549755813888) (k side n : Int) (s : List UInt8) : (x.act c m k side n s).Ok ∧ (x.act c m k side n s).Fit := by
  unfold Bm.act
  split
  · split
    · exact feedB_ok hok hf
    · exact ⟨hok, hf⟩
  · split
    · split
      · exact out_br_ok hok hf _ _
      · exact ⟨hok, hf⟩
    · split
      · exact tick_ok hok hf c n h9
      · split
        · split
          · exact lose_ok hok hf _
          · exact ⟨hok, hf⟩
        · exact ⟨hok, hf⟩
theorem keeps_act (x : Bm) (c : Tapi_Config) (m : Nat) (k side n : Int) (s : List UInt8) : Keeps x (x.act c m k side n s) 2 := by
  unfold Bm.act
  split
  · split
    · exact (keeps_feedB s x).weak (by omega)
    · exact (Keeps.refl x).weak (by omega)
  · split
    · split
      · exact (keeps_out x _ n).weak (by omega)
      · exact (Keeps.refl x).weak (by omega)
    · split
      · exact keeps_tick x c n
      · split
        · split
          · exact (keeps_lose x _).weak (by omega)
          · exact (Keeps.refl x).weak (by omega)
        · exact (Keeps.refl x).weak (by omega)
theorem ixD {side : Int} (h : side = 0 ∨ side = 1) : side = ix (decide (side = 1)) := by rcases h with rfl | rfl <;> rfl
def act17Ok (t : Tref17_Act) : Prop := (Lit.int .i64 t.Kind).wf = true ∧ (Lit.int .i64 t.Side).wf = true ∧ (Lit.int .i64 t.N).wf = true ∧ t.S.size ≤ maxLen
def ac7l (acts : List Tref17_Act) : List Value := acts.flatMap Agg.cells
theorem ac7l_length (acts : List Tref17_Act) : (ac7l acts).length = acts.length * 4 := by
  induction acts with
  | nil => rfl
  | cons e es ih => simp only [ac7l, List.flatMap_cons, List.length_append, List.length_cons] at ih ⊢; rw [ih]; simp [Agg.cells]; omega
theorem ac7l_get (acts : List Tref17_Act) (j : Nat) (h : j < acts.length) : ((ac7l acts).drop (j * 4)).take 4 = Agg.cells acts[j] := by
  induction acts generalizing j with
  | nil => simp at h
  | cons f fs ih =>
    have e : ac7l (f :: fs) = Agg.cells f ++ ac7l fs := by simp [ac7l]
    rw [e]
    cases j with
    | zero => simp [Agg.cells]
    | succ j =>
      have e2 : (j + 1) * 4 = (Agg.cells f).length + j * 4 := by simp [Agg.cells]; omega
      rw [e2, List.drop_length_add_append]
      exact ih j (by simpa using h)
theorem few17_spec {t : Tref17_Act} : Tri ρ L (law17_few K t) (fun r L' => r = decide (t.S.size ≤ 300) ∧ L' = L) := by
  unfold law17_few
  refine Tri.new fun x1 => Tri.ldS (v := t.S) (Cell.here (i := 3) rfl) (Tri.lt (Tri.drop (Tri.ret ⟨?_, rfl⟩)))
  rw [Bool.eq_iff_iff]; simp only [decide_eq_true_eq]; omega
theorem play17_spec {p m : Nat} {c : Tapi_Config} {x : Bm} {t : Tref17_Act} (hK : KBig K) (hm : c.Message = (m : Int)) (hok : x.Ok) (hf : x.Fit) (h9 : ∀ i, cnt 9 (x.get i).leg.ctl < 549755813888) (ht : act17Ok t) (hs : t.S.size ≤ 300) :
    Tri ρ (brI p c x :: L) (law17_play K (some ⟨p, 0, none⟩) t) (fun _ L' => L' = brI p c (x.act c m t.Kind t.Side t.N t.S.data.toList) :: L) := by
  unfold law17_play
  refine Tri.new fun x1 => ?_
  have cK : ∀ {L' : As}, Cell ρ (pts x1 (Agg.cells t) :: L') ⟨x1, 0, none⟩ (.int .i64 t.Kind) := Cell.here (i := 0) rfl
  have cD : ∀ {L' : As}, Cell ρ (pts x1 (Agg.cells t) :: L') ⟨x1, 1, none⟩ (.int .i64 t.Side) := Cell.here (i := 1) rfl
  have cN : ∀ {L' : As}, Cell ρ (pts x1 (Agg.cells t) :: L') ⟨x1, 2, none⟩ (.int .i64 t.N) := Cell.here (i := 2) rfl
  have cS : ∀ {L' : As}, Cell ρ (pts x1 (Agg.cells t) :: L') ⟨x1, 3, none⟩ (.string t.S) := Cell.here (i := 3) rfl
  have cl : t.S.data.toList.length = t.S.size := by simp
  refine Tri.ldI cK (Tri.lt ?_)
  unfold Bm.act
  by_cases k0 : t.Kind = 0
  · have b0 : (t.Kind == 0) = true := by simp [k0]
    rw [b0, if_pos k0]
    simp only [if_true]
    refine Tri.ldI cD (Tri.ldS cS (Tri.bytesOf fun s' hs' _ => ?_))
    rw [bytes_bl]
    refine Tri.pick 2 rfl ?_
    by_cases hside : t.Side = 0 ∨ t.Side = 1
    · rw [if_pos hside]
      conv in bridge_Bridge_Feed K _ _ _ => rw [ixD hside]
      refine Tri.bnd (brFeed_spec (s := t.S.data.toList) hK hm hok hf Rd.row (by rw [hs', cl]) (by omega)) ?_
      rintro _ _ ⟨rfl, rfl⟩
      exact Tri.pick 1 rfl (Tri.drop (Tri.pick 1 rfl (Tri.drop (Tri.ret rfl))))
    · rw [if_neg hside]
      refine Tri.bnd (brNone_feed hside) ?_
      rintro _ _ ⟨rfl, rfl⟩
      exact Tri.pick 1 rfl (Tri.drop (Tri.pick 1 rfl (Tri.drop (Tri.ret rfl))))
  · have b0 : (t.Kind == 0) = false := by simp [k0]
    rw [b0, if_neg k0]
    simp only [Bool.false_eq_true, if_false]
    refine Tri.lt ?_
    by_cases k1 : t.Kind = 1
    · have b1 : (t.Kind == 1) = true := by simp [k1]
      rw [b1, if_pos k1]
      simp only [if_true]
      refine Tri.ldI cD (Tri.ldI cN (Tri.pick 1 rfl ?_))
      by_cases hside : t.Side = 0 ∨ t.Side = 1
      · rw [if_pos hside]
        conv in bridge_Bridge_Take K _ _ _ => rw [ixD hside]
        refine Tri.bnd (brTake_spec hK hok hf (wf64 ht.2.2.1).1) ?_
        rintro _ _ ⟨_, rfl⟩
        exact Tri.drop (Tri.pick 1 rfl (Tri.drop (Tri.ret rfl)))
      · rw [if_neg hside]
        refine Tri.bnd (brNone_take hside) ?_
        rintro _ _ ⟨_, rfl⟩
        exact Tri.pick 1 rfl (Tri.drop (Tri.ret rfl))
    · have b1 : (t.Kind == 1) = false := by simp [k1]
      rw [b1, if_neg k1]
      simp only [Bool.false_eq_true, if_false]
      refine Tri.lt ?_
      by_cases k2 : t.Kind = 2
      · have b2 : (t.Kind == 2) = true := by simp [k2]
        rw [b2, if_pos k2]
        simp only [if_true]
        refine Tri.ldI cN (Tri.pick 1 rfl ?_)
        refine Tri.bnd (brTick_spec hK hok hf h9) ?_
        rintro _ _ rfl
        exact Tri.pick 1 rfl (Tri.drop (Tri.ret rfl))
      · have b2 : (t.Kind == 2) = false := by simp [k2]
        rw [b2, if_neg k2]
        simp only [Bool.false_eq_true, if_false]
        refine Tri.lt ?_
        by_cases k3 : t.Kind = 3
        · have b3 : (t.Kind == 3) = true := by simp [k3]
          rw [b3, if_pos k3]
          simp only [if_true]
          refine Tri.ldI cD (Tri.pick 1 rfl ?_)
          by_cases hside : t.Side = 0 ∨ t.Side = 1
          · rw [if_pos hside]
            conv in bridge_Bridge_Lose K _ _ => rw [ixD hside]
            refine Tri.bnd (brLose_spec hK hok hf) ?_
            rintro _ _ rfl
            exact Tri.pick 1 rfl (Tri.drop (Tri.ret rfl))
          · rw [if_neg hside]
            refine Tri.bnd (brNone_lose hside) ?_
            rintro _ _ rfl
            exact Tri.pick 1 rfl (Tri.drop (Tri.ret rfl))
        · have b3 : (t.Kind == 3) = false := by simp [k3]
          rw [b3, if_neg k3]
          simp only [Bool.false_eq_true, if_false]
          exact Tri.drop (Tri.ret rfl)
/-- five bytes -/
theorem five {l : List Int} (hn : l.length = 5) (hw : ∀ x ∈ l, (Lit.int .u8 x).wf = true) : ∃ x y z u v : Nat, l = [(x : Int), (y : Int), (z : Int), (u : Int), (v : Int)] ∧ x < 256 ∧ y < 256 ∧ z < 256 ∧ u < 256 ∧ v < 256 := by
  obtain ⟨m, rfl, hm⟩ := u8s hw
  match m, hn with
  | [x, y, z, u, v], _ => exact ⟨x, y, z, u, v, rfl, hm x (by simp), hm y (by simp), hm z (by simp), hm u (by simp), hm v (by simp)⟩
end Go.Proofs.YtjdnjlnfcbaokaaGreat

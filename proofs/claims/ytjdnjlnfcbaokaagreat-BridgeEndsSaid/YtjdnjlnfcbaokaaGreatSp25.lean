/-
  SPECS, 25: bridge: what goes out (Peek, Take), time (Tick, Lose), what is told. Own work.
-/
import Derived.Test.YtjdnjlnfcbaokaaGreatSp24
set_option linter.unusedVariables false
set_option linter.unusedSimpArgs false
set_option maxRecDepth 20000
namespace Go.Proofs.YtjdnjlnfcbaokaaGreat
open Go Go.Lg
variable {α β σ τ : Type} {ρ : Hp} {L M : As} {K : Nat}

theorem hasT (i : Bool) : decide (ix i = 0 ∨ ix i = 1) = true := by cases i <;> rfl
theorem notIx {a : Int} (h : ¬ (a = 0 ∨ a = 1)) : decide (a = 0 ∨ a = 1) = false := decide_eq_false h
theorem isIx {a : Int} (h : a = 0 ∨ a = 1) : ∃ i, a = ix i := by
  rcases h with rfl | rfl
  · exact ⟨false, rfl⟩
  · exact ⟨true, rfl⟩
def Bm.peek (x : Bm) (i : Bool) (n : Int) : List UInt8 := if (x.get i).lost = true then [] else (x.get i).leg.peek n
def Bm.out' (x : Bm) (i : Bool) (n : Int) : Bm := if (x.get i).lost = true then x else (x.set i { x.get i with leg := (x.get i).leg.out' n }).settle
theorem brPeek_spec {p : Nat} {c : Tapi_Config} {x : Bm} {i : Bool} {n : Int} (hn : -9223372036854775808 ≤ n) : Tri ρ (brI p c x :: L) (bridge_Bridge_Peek K (some ⟨p, 0, none⟩) (ix i) n) (fun r L' => r.n = (x.peek i n).length ∧ L' = row r 1 (bl (x.peek i n)) :: brI p c x :: L) := by
  unfold bridge_Bridge_Peek
  rw [has_eq, hasT]
  simp only [bnd_ret, Bool.not_true, Bool.false_eq_true, if_false, bnd_ret, bnd_bnd, bnd_ite, bnd_lt, bnd_ldB, bnd_ldI, bnd_ldS, bnd_ldP, bnd_ldSl, bnd_ldG, bnd_nn, bnd_ixA, bnd_st, bnd_drw, bnd_strOf, bnd_new, bnd_slS, bnd_slA, bnd_slStr, bnd_app, bnd_appS, bnd_appT, bnd_appZ, bnd_chk, bnd_mk, bnd_cpy, bnd_wld, bnd_agr, bnd_bytesOf, bnd_drw2, bnd_mrk, bnd_fail, sumK_inl, sumK_inr, bnd_inr]
  refine brOpen i fun l q => Tri.nn (Tri.chk (ix_ok i) ?_)
  simp only [ofs]
  refine Tri.ldB (cLost i) ?_
  unfold Bm.peek
  cases h : (x.get i).lost with
  | true =>
    simp only [if_true]
    exact brClose i (Tri.nilRow (sz := 1) (Tri.ret ⟨rfl, rfl⟩))
  | false =>
    simp only [Bool.false_eq_true, if_false]
    refine Tri.nn (Tri.chk (ix_ok i) ?_)
    simp only [ofs]
    refine Tri.ldP (cLeg i) ?_
    refine Tri.pick 1 rfl (Tri.bnd (legPeekS hn) ?_)
    rintro r _ ⟨h1, rfl⟩
    exact Tri.order [2, 1] rfl (Tri.order [0, 0, 1, 1, 1] rfl (brClose i (Tri.pick 1 rfl (Tri.ret ⟨h1, rfl⟩))))
theorem out_br_ok {x : Bm} (h : x.Ok) (hf : x.Fit) (i : Bool) (n : Int) : (x.out' i n).Ok ∧ (x.out' i n).Fit := by
  unfold Bm.out'
  split
  · exact ⟨h, hf⟩
  · obtain ⟨q1, q2⟩ := out_ok (h.get i) (hf.get i) n
    exact settle_ok (h.set i q1) (hf.set i q2)
theorem brTake_spec {p : Nat} {c : Tapi_Config} {x : Bm} {i : Bool} {n : Int} (hK : KBig K) (hok : x.Ok) (hf : x.Fit) (hn : -9223372036854775808 ≤ n) : Tri ρ (brI p c x :: L) (bridge_Bridge_Take K (some ⟨p, 0, none⟩) (ix i) n) (fun r L' => r.n = (x.peek i n).length ∧ L' = row r 1 (bl (x.peek i n)) :: brI p c (x.out' i n) :: L) := by
  unfold bridge_Bridge_Take
  rw [has_eq, hasT]
  simp only [bnd_ret, Bool.not_true, Bool.false_eq_true, if_false, bnd_ret, bnd_bnd, bnd_ite, bnd_lt, bnd_ldB, bnd_ldI, bnd_ldS, bnd_ldP, bnd_ldSl, bnd_ldG, bnd_nn, bnd_ixA, bnd_st, bnd_drw, bnd_strOf, bnd_new, bnd_slS, bnd_slA, bnd_slStr, bnd_app, bnd_appS, bnd_appT, bnd_appZ, bnd_chk, bnd_mk, bnd_cpy, bnd_wld, bnd_agr, bnd_bytesOf, bnd_drw2, bnd_mrk, bnd_fail, sumK_inl, sumK_inr, bnd_inr]
  refine brOpen i fun l q => Tri.nn (Tri.chk (ix_ok i) ?_)
  simp only [ofs]
  refine Tri.ldB (cLost i) ?_
  unfold Bm.peek Bm.out'
  cases h : (x.get i).lost with
  | true =>
    simp only [if_true]
    exact brClose i (Tri.nilRow (sz := 1) (Tri.ret ⟨rfl, rfl⟩))
  | false =>
    simp only [Bool.false_eq_true, if_false]
    refine Tri.nn (Tri.chk (ix_ok i) ?_)
    simp only [ofs]
    refine Tri.ldP (cLeg i) ?_
    refine Tri.pick 1 rfl (Tri.bnd (legTakeS hK (hf.get i) hn) ?_)
    rintro r _ ⟨h1, rfl⟩
    obtain ⟨q1, q2⟩ := out_ok (hok.get i) (hf.get i) n
    refine Tri.order [2, 1] rfl (Tri.order [0, 0, 1, 1, 1] rfl ?_)
    refine brClose2 (x := x.set i { x.get i with leg := (x.get i).leg.out' n }) i (brC_leg i _).symm (by rw [get_set]) (by rw [get_set']) (by rw [get_set]) (by rw [get_set']) ?_
    refine Tri.bnd (settle_spec hK (hok.set i q1) (hf.set i q2)) ?_
    rintro _ _ rfl
    exact Tri.pick 1 rfl (Tri.ret ⟨h1, rfl⟩)
theorem brNone_peek {p : Nat} {c : Tapi_Config} {x : Bm} {a n : Int} (h : ¬ (a = 0 ∨ a = 1)) : Tri ρ (brI p c x :: L) (bridge_Bridge_Peek K (some ⟨p, 0, none⟩) a n) (fun r L' => r.n = 0 ∧ L' = brI p c x :: L) := by
  unfold bridge_Bridge_Peek
  rw [has_eq, notIx h]
  exact Tri.ret ⟨rfl, rfl⟩
theorem brNone_take {p : Nat} {c : Tapi_Config} {x : Bm} {a n : Int} (h : ¬ (a = 0 ∨ a = 1)) : Tri ρ (brI p c x :: L) (bridge_Bridge_Take K (some ⟨p, 0, none⟩) a n) (fun r L' => r.n = 0 ∧ L' = brI p c x :: L) := by
  unfold bridge_Bridge_Take
  rw [has_eq, notIx h]
  exact Tri.ret ⟨rfl, rfl⟩
theorem brNone_feed {p : Nat} {c : Tapi_Config} {x : Bm} {a : Int} {s : Sl} (h : ¬ (a = 0 ∨ a = 1)) : Tri ρ (brI p c x :: L) (bridge_Bridge_Feed K (some ⟨p, 0, none⟩) a s) (fun r L' => r = 0 ∧ L' = brI p c x :: L) := by
  unfold bridge_Bridge_Feed
  rw [has_eq, notIx h]
  exact Tri.ret ⟨rfl, rfl⟩
theorem brNone_lose {p : Nat} {c : Tapi_Config} {x : Bm} {a : Int} (h : ¬ (a = 0 ∨ a = 1)) : Tri ρ (brI p c x :: L) (bridge_Bridge_Lose K (some ⟨p, 0, none⟩) a) (fun r L' => L' = brI p c x :: L) := by
  unfold bridge_Bridge_Lose
  rw [has_eq, notIx h]
  exact Tri.ret rfl
theorem brNone_lost {p : Nat} {c : Tapi_Config} {x : Bm} {a : Int} (h : ¬ (a = 0 ∨ a = 1)) : Tri ρ (brI p c x :: L) (bridge_Bridge_Lost K (some ⟨p, 0, none⟩) a) (fun r L' => r = false ∧ L' = brI p c x :: L) := by
  unfold bridge_Bridge_Lost
  rw [has_eq, notIx h]
  exact Tri.ret ⟨rfl, rfl⟩
theorem brLost_spec {p : Nat} {c : Tapi_Config} {x : Bm} {i : Bool} : Tri ρ (brI p c x :: L) (bridge_Bridge_Lost K (some ⟨p, 0, none⟩) (ix i)) (fun r L' => r = (x.get i).lost ∧ L' = brI p c x :: L) := by
  unfold bridge_Bridge_Lost
  rw [has_eq, hasT]
  simp only [bnd_ret, if_true, bnd_ret, bnd_bnd, bnd_ite, bnd_lt, bnd_ldB, bnd_ldI, bnd_ldS, bnd_ldP, bnd_ldSl, bnd_ldG, bnd_nn, bnd_ixA, bnd_st, bnd_drw, bnd_strOf, bnd_new, bnd_slS, bnd_slA, bnd_slStr, bnd_app, bnd_appS, bnd_appT, bnd_appZ, bnd_chk, bnd_mk, bnd_cpy, bnd_wld, bnd_agr, bnd_bytesOf, bnd_drw2, bnd_mrk, bnd_fail, sumK_inl, sumK_inr, bnd_inr]
  refine brOpen i fun l q => Tri.nn (Tri.chk (ix_ok i) ?_)
  simp only [ofs]
  exact Tri.ldB (cLost i) (brClose i (Tri.ret ⟨rfl, rfl⟩))
theorem brWaiting_spec {p : Nat} {c : Tapi_Config} {x : Bm} {i : Bool} : Tri ρ (brI p c x :: L) (bridge_Bridge_Waiting K (some ⟨p, 0, none⟩) (ix i)) (fun r L' => r = (((x.get i).q.l.length : Int), ((sizeQ (x.get i).q.l : Nat) : Int)) ∧ L' = brI p c x :: L) := by
  unfold bridge_Bridge_Waiting
  rw [has_eq, hasT]
  simp only [bnd_ret, Bool.not_true, Bool.false_eq_true, if_false]
  refine brOpen i fun l q => Tri.drw (Tri.nn (Tri.chk (ix_ok i) ?_))
  simp only [ofs]
  refine Tri.ldP (cQ i) (Tri.nn (Tri.chk (ix_ok i) ?_))
  simp only [ofs]
  refine Tri.wld1 (cQ i) fun w hw => Tri.ldP (cQ i) ?_
  refine Tri.pick 3 rfl (Tri.bnd qLen_spec ?_)
  rintro _ _ ⟨rfl, rfl⟩
  refine Tri.agr1 hw (cQ i).tail (Tri.bnd qSize_spec ?_)
  rintro _ _ ⟨rfl, rfl⟩
  exact Tri.order [1, 1, 1] rfl (brClose i (Tri.ret ⟨rfl, rfl⟩))
theorem brLeg_spec {p : Nat} {c : Tapi_Config} {x : Bm} {i : Bool} : Tri ρ (brI p c x :: L) (bridge_Bridge_Leg K (some ⟨p, 0, none⟩) (ix i)) (fun r L' => r = ((x.get i).leg.sent, (x.get i).leg.got, ((x.get i).leg.wrong : Int)) ∧ L' = brI p c x :: L) := by
  unfold bridge_Bridge_Leg
  rw [has_eq, hasT]
  simp only [bnd_ret, Bool.not_true, Bool.false_eq_true, if_false]
  refine brOpen i fun l q => Tri.nn (Tri.chk (ix_ok i) ?_)
  simp only [ofs]
  refine Tri.ldP (cLeg i) (Tri.pick 1 rfl (Tri.bnd legSentS ?_))
  rintro _ _ ⟨rfl, rfl⟩
  refine Tri.bnd legGotS ?_
  rintro _ _ ⟨rfl, rfl⟩
  refine Tri.bnd legWrongS ?_
  rintro _ _ ⟨rfl, rfl⟩
  exact Tri.pick 1 rfl (brClose i (Tri.ret ⟨rfl, rfl⟩))
theorem brOver_spec {p : Nat} {c : Tapi_Config} {x : Bm} : Tri ρ (brI p c x :: L) (bridge_Bridge_Over K (some ⟨p, 0, none⟩)) (fun r L' => r = ((x.get false).over && (x.get true).over) ∧ L' = brI p c x :: L) := by
  unfold bridge_Bridge_Over
  have e0 : ((⟨p, 0, none⟩ : Addr).add 12).add ((0 : Int).toNat * 7) = ⟨p, off false, none⟩ := ofs0 p false
  have e1 : ((⟨p, 0, none⟩ : Addr).add 12).add ((1 : Int).toNat * 7) = ⟨p, off true, none⟩ := ofs0 p true
  refine Tri.nn ?_
  rw [e0]
  refine Tri.bnd over_spec ?_
  rintro _ _ ⟨rfl, rfl⟩
  cases (x.get false).over with
  | false => simp only [Bool.false_eq_true, if_false, bnd_ret]; exact Tri.ret ⟨rfl, rfl⟩
  | true =>
    simp only [if_true, bnd_ret, bnd_bnd, bnd_ite, bnd_lt, bnd_ldB, bnd_ldI, bnd_ldS, bnd_ldP, bnd_ldSl, bnd_ldG, bnd_nn, bnd_ixA, bnd_st, bnd_drw, bnd_strOf, bnd_new, bnd_slS, bnd_slA, bnd_slStr, bnd_app, bnd_appS, bnd_appT, bnd_appZ, bnd_chk, bnd_mk, bnd_cpy, bnd_wld, bnd_agr, bnd_bytesOf, bnd_drw2, bnd_mrk, bnd_fail, sumK_inl, sumK_inr, bnd_inr]
    refine Tri.nn ?_
    rw [e1]
    refine Tri.bnd over_spec ?_
    rintro _ _ ⟨rfl, rfl⟩
    exact Tri.ret ⟨by simp, rfl⟩
/-! ### time -/
def Bm.lose0 (x : Bm) (i : Bool) : Bm := (x.set i { x.get i with lost := true }).set (!i) ((x.get (!i)).end_ 1011)
def Bm.lose (x : Bm) (i : Bool) : Bm := (x.lose0 i).settle
theorem lose0_leg (x : Bm) (i j : Bool) : ((x.lose0 i).get j).leg = (x.get j).leg := by
  unfold Bm.lose0
  cases i <;> cases j <;> first | rfl | exact (end__leg _ _).1
theorem lose_spec {p : Nat} {c : Tapi_Config} {x : Bm} {i : Bool} {l q : Bool → Nat} : Tri ρ (pts p (brC c x l q) :: L) (bridge_Bridge_lose K (some ⟨p, 0, none⟩) (ix i)) (fun _ L' => L' = pts p (brC c (x.lose0 i) l q) :: L) := by
  unfold bridge_Bridge_lose
  refine Tri.nn (Tri.chk (ix_ok i) ?_)
  simp only [ofs]
  refine stSide (y := x.set i { x.get i with lost := true }) (by omega) (by rfl) rfl (sLost i true) ?_
  refine Tri.drw (Tri.nn ?_)
  rw [ix_wrap]
  refine Tri.chk (ix_ok (!i)) ?_
  rw [ofs0]
  refine Tri.bnd across_spec ?_
  rintro _ _ ⟨rfl, rfl⟩
  refine Tri.bnd end__spec ?_
  rintro _ _ rfl
  have e1 : acrossOf 1006 = 1011 := by decide
  refine Tri.ret ?_
  rw [get_set', e1]; rfl
theorem lose0_close {p : Nat} {c : Tapi_Config} {x : Bm} {i : Bool} {m : G β} {C : β → As → Prop} {l q : Bool → Nat} (h : Tri ρ (brI p c (x.lose0 i) :: L) m C) :
    Tri ρ (pts p (brC c (x.lose0 i) l q) :: legI (l i) c (x.get i).leg :: legI (l (!i)) c (x.get (!i)).leg :: queueI (q i) (x.get i).q :: queueI (q (!i)) (x.get (!i)).q :: L) m C := by
  refine brClose2 (x := x.lose0 i) i rfl (lose0_leg x i i).symm (lose0_leg x i (!i)).symm ?_ ?_ h
  · unfold Bm.lose0; rw [get_set2, get_set]
  · unfold Bm.lose0; rw [get_set, (end__leg _ _).2]
theorem brLose_spec {p : Nat} {c : Tapi_Config} {x : Bm} {i : Bool} (hK : KBig K) (hok : x.Ok) (hf : x.Fit) : Tri ρ (brI p c x :: L) (bridge_Bridge_Lose K (some ⟨p, 0, none⟩) (ix i)) (fun _ L' => L' = brI p c (x.lose i) :: L) := by
  unfold bridge_Bridge_Lose
  rw [has_eq, hasT]
  simp only [bnd_ret, if_true]
  refine brOpen i fun l q => Tri.bnd lose_spec ?_
  rintro _ _ rfl
  refine lose0_close ?_
  obtain ⟨q1, q2⟩ := Bm.ok_of (y := x.lose0 i) hok hf (lose0_leg x i)
  refine Tri.bnd (settle_spec hK q1 q2) ?_
  rintro _ _ rfl
  exact Tri.ret rfl
def wr (n : Int) : Int := IntKind.wrap .i64 n
def Bm.tick0 (x : Bm) (i : Bool) (c : Tapi_Config) (n : Int) : Bm :=
  if (x.get i).leg.sent = true then x.set i { x.get i with ending := wr ((x.get i).ending + n), lost := decide (c.Close < wr ((x.get i).ending + n)) }
  else if (x.get i).asked = true ∧ c.Pong < wr ((x.get i).heard + n) then (x.set i { x.get i with heard := wr ((x.get i).heard + n) }).lose0 i
  else if (x.get i).asked = false ∧ c.Idle < wr ((x.get i).heard + n) then x.set i { x.get i with heard := 0, asked := true, leg := ((x.get i).leg.ping []).1 }
  else x.set i { x.get i with heard := wr ((x.get i).heard + n) }
theorem tick0_ok {x : Bm} (hok : x.Ok) (hf : x.Fit) (i : Bool) (c : Tapi_Config) (n : Int) (h9 : cnt 9 (x.get i).leg.ctl < 549755813888) : (x.tick0 i c n).Ok ∧ (x.tick0 i c n).Fit := by
  unfold Bm.tick0
  split
  · exact ⟨hok.set i (hok.get i), hf.set i (hf.get i)⟩
  · split
    · exact Bm.ok_of (x := x.set i { x.get i with heard := wr ((x.get i).heard + n) }) (hok.set i (hok.get i)) (hf.set i (hf.get i)) (lose0_leg _ i)
    · split
      · obtain ⟨q1, q2⟩ := ping_ok (hok.get i) (hf.get i) h9 []
        exact ⟨hok.set i q1, hf.set i q2⟩
      · exact ⟨hok.set i (hok.get i), hf.set i (hf.get i)⟩
theorem tick_spec {p : Nat} {c : Tapi_Config} {x : Bm} {i : Bool} {n : Int} (hK : KBig K) (hf : x.Fit) (h9 : cnt 9 (x.get i).leg.ctl < 549755813888) : Tri ρ (brI p c x :: L) (bridge_Bridge_tick K (some ⟨p, 0, none⟩) (ix i) n) (fun _ L' => L' = brI p c (x.tick0 i c n) :: L) := by
  unfold bridge_Bridge_tick
  refine brOpen i fun l q => Tri.nn (Tri.chk (ix_ok i) ?_)
  simp only [ofs]
  refine Tri.ldP (cLeg i) (Tri.pick 1 rfl (Tri.bnd legSentS ?_))
  rintro _ _ ⟨rfl, rfl⟩
  refine Tri.pick 1 rfl ?_
  have a9 : ((⟨p, 0, none⟩ : Addr).add 0).add 9 = ⟨p, 9, none⟩ := rfl
  have a10 : ((⟨p, 0, none⟩ : Addr).add 0).add 10 = ⟨p, 10, none⟩ := rfl
  have a11 : ((⟨p, 0, none⟩ : Addr).add 0).add 11 = ⟨p, 11, none⟩ := rfl
  unfold Bm.tick0
  cases hs : (x.get i).leg.sent with
  | true =>
    simp only [if_true]
    refine Tri.ldI (cEnding i) ?_
    have hw : IntKind.wrap .i64 ((x.get i).ending + n) = wr ((x.get i).ending + n) := rfl
    rw [hw]
    generalize wr ((x.get i).ending + n) = e
    refine stSide (y := x.set i { x.get i with ending := e }) (by omega) (by rfl) rfl (sEnding i e) ?_
    refine Tri.drw (Tri.ldI (v := e) (by have := cEnding (ρ := ρ) (c := c) (x := x.set i { x.get i with ending := e }) (l := l) (q := q) (p := p) (L := legI (l i) c (x.get i).leg :: legI (l (!i)) c (x.get (!i)).leg :: queueI (q i) (x.get i).q :: queueI (q (!i)) (x.get (!i)).q :: L) i
                                         rw [get_set] at this; exact this) (Tri.nn ?_))
    rw [a11]
    refine Tri.ldI (v := c.Close) (Cell.here (i := 11) rfl) ?_
    refine stSide (y := (x.set i { x.get i with ending := e }).set i { (x.set i { x.get i with ending := e }).get i with lost := decide (c.Close < e) }) (by omega) (by rfl) rfl (sLost i _) ?_
    refine brClose2 (x := x.set i { x.get i with ending := e, lost := decide (c.Close < e) }) i ?_ ?_ ?_ ?_ ?_ (Tri.ret rfl)
    · cases i <;> rfl
    · rw [get_set]
    · rw [get_set']
    · rw [get_set]
    · rw [get_set']
  | false =>
    simp only [Bool.false_eq_true, if_false]
    refine Tri.ldI (cHeard i) ?_
    have hw : IntKind.wrap .i64 ((x.get i).heard + n) = wr ((x.get i).heard + n) := rfl
    rw [hw]
    generalize wr ((x.get i).heard + n) = e
    refine stSide (y := x.set i { x.get i with heard := e }) (by omega) (by rfl) rfl (sHeard i e) ?_
    obtain ⟨y, hy⟩ : ∃ y : Bm, y = x.set i { x.get i with heard := e } := ⟨_, rfl⟩
    have hya : (y.get i).asked = (x.get i).asked := by rw [hy, get_set]
    have hyh : (y.get i).heard = e := by rw [hy, get_set]
    have g1 : (y.get i).leg = (x.get i).leg := by rw [hy, get_set]
    have g2 : (y.get (!i)).leg = (x.get (!i)).leg := by rw [hy, get_set']
    have g3 : (y.get i).q = (x.get i).q := by rw [hy, get_set]
    have g4 : (y.get (!i)).q = (x.get (!i)).q := by rw [hy, get_set']
    have hya2 : x.set i { x.get i with heard := 0, asked := true, leg := ((x.get i).leg.ping []).1 } = y.set i { y.get i with heard := 0, asked := true, leg := ((x.get i).leg.ping []).1 } := by rw [hy]; cases i <;> rfl
    rw [hya2, ← hy]
    have cA : ∀ {L' : As}, Cell ρ (pts p (brC c y l q) :: L') ⟨p, off i + 5, none⟩ (.bool (x.get i).asked) := by
      intro L'
      have := cAsked (ρ := ρ) (c := c) (x := y) (l := l) (q := q) (p := p) (L := L') i
      rw [hya] at this; exact this
    have cH : ∀ {L' : As}, Cell ρ (pts p (brC c y l q) :: L') ⟨p, off i + 4, none⟩ (.int .i64 e) := by
      intro L'
      have := cHeard (ρ := ρ) (c := c) (x := y) (l := l) (q := q) (p := p) (L := L') i
      rw [hyh] at this; exact this
    clear hy
    refine Tri.val (decide ((x.get i).asked = true ∧ c.Pong < e)) ?_ ?_
    · refine Tri.drw (Tri.ldB cA ?_)
      cases (x.get i).asked with
      | true =>
        simp only [if_true]
        refine Tri.ldI cH (Tri.nn ?_)
        rw [a10]
        exact Tri.ldI (v := c.Pong) (Cell.here (i := 10) rfl) (Tri.lt (Tri.ret ⟨by simp, rfl⟩))
      | false => simp only [Bool.false_eq_true, if_false]; exact Tri.ret ⟨by simp, rfl⟩
    by_cases h1 : (x.get i).asked = true ∧ c.Pong < e
    · rw [decide_eq_true h1, if_pos h1]
      simp only [if_true]
      refine Tri.bnd lose_spec ?_
      rintro _ _ rfl
      rw [← g1, ← g2, ← g3, ← g4]
      exact lose0_close (Tri.ret rfl)
    rw [decide_eq_false h1, if_neg h1]
    simp only [Bool.false_eq_true, if_false]
    refine Tri.val (decide ((x.get i).asked = false ∧ c.Idle < e)) ?_ ?_
    · refine Tri.drw (Tri.ldB cA ?_)
      cases (x.get i).asked with
      | false =>
        simp only [Bool.not_false, if_true]
        refine Tri.ldI cH (Tri.nn ?_)
        rw [a9]
        exact Tri.ldI (v := c.Idle) (Cell.here (i := 9) rfl) (Tri.lt (Tri.ret ⟨by simp, rfl⟩))
      | true => simp only [Bool.not_true, Bool.false_eq_true, if_false]; exact Tri.ret ⟨by simp, rfl⟩
    by_cases h2 : (x.get i).asked = false ∧ c.Idle < e
    · rw [decide_eq_true h2, if_pos h2]
      simp only [if_true]
      refine stSide (y := y.set i { y.get i with asked := true }) (by omega) (by rfl) rfl (sAsked i true) ?_
      refine stSide (y := (y.set i { y.get i with asked := true }).set i { (y.set i { y.get i with asked := true }).get i with heard := 0 }) (by omega) (by rfl) rfl (sHeard i 0) ?_
      refine Tri.ldP (cLeg i) ?_
      rw [ba_nil]
      refine Tri.pick 1 rfl (Tri.bnd (legPingS (d := []) hK (hf.get i) h9) ?_)
      rintro _ _ ⟨rfl, rfl⟩
      refine Tri.pick 1 rfl (brClose2 (x := y.set i { y.get i with heard := 0, asked := true, leg := ((x.get i).leg.ping []).1 }) i ?_ ?_ ?_ ?_ ?_ (Tri.ret rfl))
      · cases i <;> rfl
      · rw [get_set]
      · rw [get_set', g2]
      · rw [get_set]; exact g3.symm
      · rw [get_set', g4]
    · rw [decide_eq_false h2, if_neg h2]
      simp only [Bool.false_eq_true, if_false]
      exact brClose2 (x := y) i rfl g1.symm g2.symm g3.symm g4.symm (Tri.ret rfl)
def clampN (n : Int) : Int := if (1073741824 : Int) < (if n < (0 : Int) then (0 : Int) else n) then 1073741824 else (if n < (0 : Int) then (0 : Int) else n)
def Bm.tick1 (x : Bm) (i : Bool) (c : Tapi_Config) (n : Int) : Bm := if (x.get i).lost = true then x else x.tick0 i c (clampN n)
def Bm.tick (x : Bm) (c : Tapi_Config) (n : Int) : Bm := ((x.tick1 false c n).tick1 true c n).settle
theorem tick1_ok {x : Bm} (hok : x.Ok) (hf : x.Fit) (i : Bool) (c : Tapi_Config) (n : Int) (h9 : cnt 9 (x.get i).leg.ctl < 549755813888) : (x.tick1 i c n).Ok ∧ (x.tick1 i c n).Fit := by
  unfold Bm.tick1
  split
  · exact ⟨hok, hf⟩
  · exact tick0_ok hok hf i c _ h9
theorem tick1_spec {p : Nat} {c : Tapi_Config} {x : Bm} {i : Bool} {n : Int} (hK : KBig K) (hf : x.Fit) (h9 : cnt 9 (x.get i).leg.ctl < 549755813888) {again : Int → G Unit} {s : Int} {C : Unit → As → Prop} (hs : s = ix i)
    (h : Tri ρ (brI p c (x.tick1 i c n) :: L) (again (IntKind.wrap .i64 (s + 1))) C) : Tri ρ (brI p c x :: L) (bridge_Bridge_Tick_l0 K (some ⟨p, 0, none⟩) n again s) C := by
  subst hs
  unfold bridge_Bridge_Tick_l0
  have hd : decide (ix i < (2 : Int)) = true := by cases i <;> rfl
  rw [hd]
  simp only [if_true]
  refine brOpen i fun l q => Tri.nn (Tri.chk (ix_ok i) ?_)
  simp only [ofs]
  refine Tri.ldB (cLost i) (brClose i ?_)
  unfold Bm.tick1 at h
  cases hl : (x.get i).lost with
  | true =>
    rw [hl] at h
    simp only [Bool.not_true, Bool.false_eq_true, if_false, bnd_ret, if_true] at h ⊢
    exact h
  | false =>
    rw [hl] at h
    simp only [Bool.not_false, Bool.false_eq_true, if_false, if_true, bnd_ret, bnd_bnd, bnd_ite, bnd_lt, bnd_ldB, bnd_ldI, bnd_ldS, bnd_ldP, bnd_ldSl, bnd_ldG, bnd_nn, bnd_ixA, bnd_st, bnd_drw, bnd_strOf, bnd_new, bnd_slS, bnd_slA, bnd_slStr, bnd_app, bnd_appS, bnd_appT, bnd_appZ, bnd_chk, bnd_mk, bnd_cpy, bnd_wld, bnd_agr, bnd_bytesOf, bnd_drw2, bnd_mrk, bnd_fail, sumK_inl, sumK_inr, bnd_inr] at h ⊢
    refine Tri.bnd (tick_spec hK hf h9) ?_
    rintro _ _ rfl
    exact h
/-- pings in both sides -/
theorem tick0_c9 (x : Bm) (i : Bool) (c : Tapi_Config) (n : Int) : (∀ j, j = (!i) → cnt 9 ((x.tick0 i c n).get j).leg.ctl = cnt 9 (x.get j).leg.ctl) ∧ cnt 9 ((x.tick0 i c n).get i).leg.ctl ≤ cnt 9 (x.get i).leg.ctl + 1 := by
  unfold Bm.tick0
  split
  · refine ⟨?_, ?_⟩
    · rintro j rfl; rw [get_set']
    · rw [get_set]; exact Nat.le_succ _
  · split
    · refine ⟨?_, ?_⟩
      · rintro j rfl; rw [lose0_leg, get_set']
      · rw [lose0_leg, get_set]; exact Nat.le_succ _
    · split
      · refine ⟨?_, ?_⟩
        · rintro j rfl; rw [get_set']
        · rw [get_set]; exact (kin_ping _ _).2
      · refine ⟨?_, ?_⟩
        · rintro j rfl; rw [get_set']
        · rw [get_set]; exact Nat.le_succ _
theorem brTick_spec {p : Nat} {c : Tapi_Config} {x : Bm} {n : Int} (hK : KBig K) (hok : x.Ok) (hf : x.Fit) (h9 : ∀ i, cnt 9 (x.get i).leg.ctl < 549755813888) : Tri ρ (brI p c x :: L) (bridge_Bridge_Tick K (some ⟨p, 0, none⟩) n) (fun _ L' => L' = brI p c (x.tick c n) :: L) := by
  unfold bridge_Bridge_Tick
  obtain ⟨k, hk⟩ : ∃ k, K = k + 1 + 1 + 1 := ⟨K - 3, by unfold KBig at hK; omega⟩
  have e : ∀ M, M = K → loopG (bridge_Bridge_Tick_l0 K (some ⟨p, 0, none⟩) n) M 0 = bridge_Bridge_Tick_l0 K (some ⟨p, 0, none⟩) n (bridge_Bridge_Tick_l0 K (some ⟨p, 0, none⟩) n (bridge_Bridge_Tick_l0 K (some ⟨p, 0, none⟩) n (loopG (bridge_Bridge_Tick_l0 K (some ⟨p, 0, none⟩) n) k))) 0 := by
    intro M hM
    rw [hk] at hM
    generalize K = K' at *
    subst hM
    rfl
  rw [e K rfl]
  have h9t : cnt 9 ((x.tick1 false c n).get true).leg.ctl < 549755813888 := by
    unfold Bm.tick1
    split
    · exact h9 true
    · rw [(tick0_c9 x false c _).1 true rfl]; exact h9 true
  obtain ⟨q1, q2⟩ := tick1_ok hok hf false c n (h9 false)
  obtain ⟨r1, r2⟩ := tick1_ok q1 q2 true c n h9t
  refine Tri.bnd (B := fun _ L' => L' = brI p c ((x.tick1 false c n).tick1 true c n) :: L) ?_ ?_
  · refine tick1_spec (i := false) hK hf (h9 false) rfl ?_
    have w1 : IntKind.wrap .i64 ((0 : Int) + 1) = 1 := by decide +kernel
    rw [w1]
    refine tick1_spec (i := true) hK q2 h9t rfl ?_
    have w2 : IntKind.wrap .i64 ((1 : Int) + 1) = 2 := by decide +kernel
    rw [w2]
    conv in bridge_Bridge_Tick_l0 K _ _ _ 2 => unfold bridge_Bridge_Tick_l0
    exact Tri.ret rfl
  · rintro _ _ rfl
    refine Tri.bnd (settle_spec hK r1 r2) ?_
    rintro _ _ rfl
    exact Tri.ret rfl
end Go.Proofs.YtjdnjlnfcbaokaaGreat

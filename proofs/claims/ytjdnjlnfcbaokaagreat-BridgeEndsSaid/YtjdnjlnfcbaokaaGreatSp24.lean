/-
  SPECS, 24: bridge: what comes (hear, Feed), what goes out (Peek, Take), time (Tick, Lose), what is told. Own work.
-/
import Derived.Test.YtjdnjlnfcbaokaaGreatSp23
set_option linter.unusedVariables false
set_option linter.unusedSimpArgs false
set_option maxRecDepth 20000
namespace Go.Proofs.YtjdnjlnfcbaokaaGreat
open Go Go.Lg
variable {α β σ τ : Type} {ρ : Hp} {L M : As} {K : Nat}

theorem Lm.Fit.feed {x : Lm} (hok : x.Ok) (h : x.Fit) (b : List UInt8) : (x.feed b).1.Fit := (feed_ok hok h b).2
def Bm.put1 (x : Bm) (i : Bool) (e : Ev) : Bm :=
  if e.op = 1 ∨ e.op = 2 then x.set i { x.get i with q := (x.get i).q.put e }
  else if e.op = 8 then x.set (!i) ((x.get (!i)).end_ (acrossOf e.code)) else x
def Bm.hear1 (x : Bm) (i : Bool) (b : UInt8) : Bm := x.set i { x.get i with heard := 0, asked := false, leg := ((x.get i).leg.feed [b]).1 }
def Bm.hear2 (x : Bm) (i : Bool) (b : UInt8) : Bm := ((x.get i).leg.feed [b]).2.foldl (fun y e => y.put1 i e) (x.hear1 i b)
def Bm.hear (x : Bm) (i : Bool) (b : UInt8) : Bm :=
  (if ((x.get i).leg.feed [b]).1.wrong ≠ 0 then (x.hear2 i b).set (!i) (((x.hear2 i b).get (!i)).end_ 1001) else x.hear2 i b).settle
theorem end__leg (s : Sd) (c : Int) : (s.end_ c).leg = s.leg ∧ (s.end_ c).q = s.q := by unfold Sd.end_; split <;> exact ⟨rfl, rfl⟩
theorem put1_leg (x : Bm) (i j : Bool) (e : Ev) : ((x.put1 i e).get j).leg = (x.get j).leg := by
  unfold Bm.put1
  split
  · cases i <;> cases j <;> rfl
  · split
    · cases i <;> cases j <;> first | rfl | exact (end__leg _ _).1
    · rfl
theorem puts_leg (i j : Bool) : ∀ (es : List Ev) (x : Bm), ((es.foldl (fun y e => y.put1 i e) x).get j).leg = (x.get j).leg
  | [], x => rfl
  | e :: es, x => by
    rw [List.foldl_cons, puts_leg i j es, put1_leg]
theorem Bm.ok_of {x y : Bm} (h : x.Ok) (hf : x.Fit) (hl : ∀ j, (y.get j).leg = (x.get j).leg) : y.Ok ∧ y.Fit := by
  have h1 : y.a.leg = x.a.leg := hl false
  have h2 : y.b.leg = x.b.leg := hl true
  exact ⟨⟨by rw [h1]; exact h.a, by rw [h2]; exact h.b⟩, ⟨by rw [h1]; exact hf.a, by rw [h2]; exact hf.b⟩⟩
theorem hear1_ok {x : Bm} (h : x.Ok) (hf : x.Fit) (i : Bool) (b : UInt8) : (x.hear1 i b).Ok ∧ (x.hear1 i b).Fit := by
  obtain ⟨q1, q2⟩ := feed_ok (h.get i) (hf.get i) [b]
  exact ⟨h.set i q1, hf.set i q2⟩
theorem hear2_ok {x : Bm} (h : x.Ok) (hf : x.Fit) (i : Bool) (b : UInt8) : (x.hear2 i b).Ok ∧ (x.hear2 i b).Fit := by
  obtain ⟨q1, q2⟩ := hear1_ok h hf i b
  exact Bm.ok_of q1 q2 fun j => puts_leg i j _ _
theorem hear3_ok {x : Bm} (h : x.Ok) (hf : x.Fit) (i : Bool) (b : UInt8) : (if ((x.get i).leg.feed [b]).1.wrong ≠ 0 then (x.hear2 i b).set (!i) (((x.hear2 i b).get (!i)).end_ 1001) else x.hear2 i b : Bm).Ok ∧ (if ((x.get i).leg.feed [b]).1.wrong ≠ 0 then (x.hear2 i b).set (!i) (((x.hear2 i b).get (!i)).end_ 1001) else x.hear2 i b : Bm).Fit := by
  obtain ⟨q1, q2⟩ := hear2_ok h hf i b
  split
  · exact ⟨q1.set _ (by rw [(end__leg _ _).1]; exact q1.get _), q2.set _ (by rw [(end__leg _ _).1]; exact q2.get _)⟩
  · exact ⟨q1, q2⟩
theorem hear_ok {x : Bm} (h : x.Ok) (hf : x.Fit) (i : Bool) (b : UInt8) : (x.hear i b).Ok ∧ (x.hear i b).Fit := by
  obtain ⟨q1, q2⟩ := hear3_ok h hf i b
  exact settle_ok q1 q2
theorem hear_spec {p : Nat} {c : Tapi_Config} {x : Bm} {i : Bool} {b : UInt8} (hK : KBig K) (hok : x.Ok) (hf : x.Fit) :
    Tri ρ (brI p c x :: L) (bridge_Bridge_hear K (some ⟨p, 0, none⟩) (ix i) (b.toNat : Int)) (fun _ L' => L' = brI p c (x.hear i b) :: L) := by
  unfold bridge_Bridge_hear
  have e2 : (((⟨p, 0, none⟩ : Addr).add 12).add ((ix (!i)).toNat * 7)) = ⟨p, off (!i), none⟩ := ofs0 p (!i)
  refine Tri.drw (Tri.nn (Tri.chk (ix_ok i) (Tri.nn ?_)))
  rw [ix_wrap]
  refine Tri.chk (ix_ok (!i)) ?_
  refine brOpen i fun l q => ?_
  simp only [ofs, e2]
  refine stSide (y := x.set i { x.get i with heard := 0 }) (by omega) (by rfl) rfl (sHeard i 0) ?_
  refine stSide (y := (x.set i { x.get i with heard := 0 }).set i { (x.set i { x.get i with heard := 0 }).get i with asked := false }) (by omega) (by rfl) rfl (sAsked i false) ?_
  refine Tri.ldP (cLeg i) (Tri.new fun x6 => ?_)
  have el : ([.int .u8 ((b.toNat : Nat) : Int)] : List Value) = bl [b] := rfl
  rw [el]
  refine Tri.order [2] rfl (Tri.bnd (legFeedS (b := [b]) hK (hf.get i) (Rd.lit (l := [b])) rfl (by simp)) ?_)
  rintro x7 _ ⟨h7, rfl⟩
  have hle : ((x.get i).leg.feed [b]).2.length ≤ 70000 := by
    have hmost : (x.get i).leg.inn.most ≤ 65536 := by rw [(hok.get i).most]; have := (hok.get i).message; omega
    have hp := (hf.get i).part
    unfold Lm.feed
    split
    · simp
    · refine Nat.le_trans (feedL_len _ _) ?_
      rw [feed_parse]
      split
      · simp
      · have hlen := feedS_len (masked := (x.get i).leg.inn.masked) (most := (x.get i).leg.inn.most) (k := ((x.get i).leg.inn.part ++ [b]).length + 1) (p := (x.get i).leg.inn.part ++ [b]) (by omega)
        show (parse _ _ _).1.length ≤ _
        unfold parse
        simp at hlen ⊢; omega
  refine Tri.order [2] rfl (Tri.drop ?_)
  have hx1 : ∃ x1 : Bm, x1 = x.hear1 i b := ⟨_, rfl⟩
  obtain ⟨x1, hx1⟩ := hx1
  have hbr : brC c ((x.set i { x.get i with heard := 0 }).set i { (x.set i { x.get i with heard := 0 }).get i with asked := false }) l q = brC c x1 l q := by rw [hx1]; cases i <;> rfl
  rw [hbr]
  have hl1 : (x1.get i).leg = ((x.get i).leg.feed [b]).1 := by rw [hx1]; unfold Bm.hear1; rw [get_set]
  have hl2 : (x1.get (!i)).leg = (x.get (!i)).leg := by rw [hx1]; unfold Bm.hear1; rw [get_set']
  have hq1 : (x1.get i).q = (x.get i).q := by rw [hx1]; unfold Bm.hear1; rw [get_set]
  have hq2 : (x1.get (!i)).q = (x.get (!i)).q := by rw [hx1]; unfold Bm.hear1; rw [get_set']
  rw [← hl1, ← hl2, ← hq1, ← hq2]
  have hh2 : x.hear2 i b = ((x.get i).leg.feed [b]).2.foldl (fun y e => y.put1 i e) x1 := by rw [hx1]; rfl
  have h3 := hear3_ok hok hf i b
  have hhear : x.hear i b = (if (x1.get i).leg.wrong ≠ 0 then (x.hear2 i b).set (!i) (((x.hear2 i b).get (!i)).end_ 1001) else x.hear2 i b).settle := by rw [hl1]; rfl
  rw [← hl1] at h3
  rw [hhear]
  rw [hh2] at h3 ⊢
  generalize ((x.get i).leg.feed [b]).2 = es at h7 hle h3 ⊢
  refine Tri.order [0, 1] rfl ?_
  refine Tri.bnd (B := fun _ L' => L' = pts p (brC c (es.foldl (fun y e => y.put1 i e) x1) l q) :: legI (l i) c (x1.get i).leg :: legI (l (!i)) c (x1.get (!i)).leg :: queueI (q i) ((es.foldl (fun y e => y.put1 i e) x1).get i).q :: queueI (q (!i)) ((es.foldl (fun y e => y.put1 i e) x1).get (!i)).q :: L) ?_ ?_
  · refine Tri.loop (μ := fun (k : Int) => es.length - k.toNat) (I := fun (k : Int) L' => ∃ (j : Nat) (y : Bm), k = j ∧ j ≤ es.length ∧ es.foldl (fun y e => y.put1 i e) x1 = (es.drop j).foldl (fun y e => y.put1 i e) y ∧
        L' = row x7 3 (evl es) :: pts p (brC c y l q) :: legI (l i) c (x1.get i).leg :: legI (l (!i)) c (x1.get (!i)).leg :: queueI (q i) (y.get i).q :: queueI (q (!i)) (y.get (!i)).q :: L) ?_ (by unfold KBig at hK; simp; omega) ⟨0, x1, rfl, by omega, rfl, ?_⟩
    · rintro again _ L' ⟨j, y, rfl, hj, hfo, rfl⟩ ih
      unfold bridge_Bridge_hear_l0
      rw [h7]
      refine Tri.ite ?_ ?_
      · intro hc
        have c1 : j < es.length := by simp at hc; omega
        rw [List.drop_eq_getElem_cons c1, List.foldl_cons] at hfo
        have hget : ((evl es).drop (j * 3)).take 3 = evc es[j] := by
          clear hfo
          induction es generalizing j with
          | nil => simp at c1
          | cons f fs ih =>
            have e : evl (f :: fs) = evc f ++ evl fs := by simp [evl]
            rw [e]
            cases j with
            | zero => simp [evc]
            | succ j =>
              have e2 : (j + 1) * 3 = (evc f).length + j * 3 := by rw [evc_len]; omega
              rw [e2, List.drop_length_add_append]
              have key : ∀ (fs : List Ev) (j : Nat) (h : j < fs.length), ((evl fs).drop (j * 3)).take 3 = evc fs[j] := by
                intro fs
                induction fs with
                | nil => intro j h; simp at h
                | cons f fs ih =>
                  intro j h
                  have e : evl (f :: fs) = evc f ++ evl fs := by simp [evl]
                  rw [e]
                  cases j with
                  | zero => simp [evc]
                  | succ j =>
                    have e2 : (j + 1) * 3 = (evc f).length + j * 3 := by rw [evc_len]; omega
                    rw [e2, List.drop_length_add_append]
                    exact ih j (by simpa using h)
              exact key fs j (by simpa using c1)
        refine Tri.ixA j Rd.row rfl (by omega) (by intro e; have e9 := congrArg List.length e; rw [evl_length, List.length_nil] at e9; omega) fun x81 h81 => ?_
        refine Tri.ldG es[j].t rfl (h81.cells Rd.row (by omega) hget rfl) ?_
        generalize es[j] = e at hfo
        rw [evc_zero]
        refine Tri.new fun x83 => stEv (e := e) rfl (evc_len _) ?_
        refine Tri.ldI (Cell.here (i := 0) rfl) (Tri.lt ?_)
        have hw1 : IntKind.wrap .i64 ((j : Int) + 1) = ((j + 1 : Nat) : Int) := by rw [w64 (by omega) (by omega)]; omega
        rw [hw1]
        refine Tri.val (decide (e.op = 1 ∨ e.op = 2)) ?_ ?_
        · by_cases h1 : e.op = 1
          · have hd : (e.op == 1) = true := by simp [h1]
            rw [hd]
            simp only [if_true]
            exact Tri.ret ⟨by simp [h1], rfl⟩
          · have hd : (e.op == 1) = false := by simp [h1]
            rw [hd]
            simp only [Bool.false_eq_true, if_false]
            refine Tri.lt (Tri.ret ⟨?_, rfl⟩)
            rw [Bool.eq_iff_iff]; simp [h1]
        refine Tri.bnd (B := fun _ L' => L' = pts x83 (evc e) :: row x7 3 (evl es) :: pts p (brC c (y.put1 i e) l q) :: legI (l i) c (x1.get i).leg :: legI (l (!i)) c (x1.get (!i)).leg :: queueI (q i) ((y.put1 i e).get i).q :: queueI (q (!i)) ((y.put1 i e).get (!i)).q :: L) ?_ ?_
        · by_cases h1 : e.op = 1 ∨ e.op = 2
          · rw [decide_eq_true h1]
            simp only [if_true]
            have hp : y.put1 i e = y.set i { y.get i with q := (y.get i).q.put e } := by unfold Bm.put1; rw [if_pos h1]
            rw [hp]
            refine Tri.drw ?_
            simp only [ofs]
            refine Tri.ldP (cQ i).tail.tail (ldEv ?_)
            refine Tri.pick 5 rfl (Tri.bnd qPut_spec ?_)
            rintro _ _ rfl
            rw [brC_q]
            simp only [get_set, get_set']
            exact Tri.order [1, 1, 1, 1, 1] rfl (Tri.ret rfl)
          · rw [decide_eq_false h1]
            simp only [Bool.false_eq_true, if_false]
            refine Tri.lt ?_
            by_cases h8 : e.op = 8
            · have hd : (e.op == 8) = true := by simp [h8]
              rw [hd]
              simp only [if_true]
              have hp : y.put1 i e = y.set (!i) ((y.get (!i)).end_ (acrossOf e.code)) := by unfold Bm.put1; rw [if_neg h1, if_pos h8]
              rw [hp]
              refine Tri.ldI (Cell.here (i := 1) rfl) ?_
              refine Tri.bnd across_spec ?_
              rintro _ _ ⟨rfl, rfl⟩
              rw [ix_wrap, ofs0]
              refine Tri.pick 2 rfl (Tri.bnd end__spec ?_)
              rintro _ _ rfl
              simp only [get_set, get_set2, (end__leg _ _).2]
              exact Tri.order [1, 1] rfl (Tri.ret rfl)
            · have hd : (e.op == 8) = false := by simp [h8]
              rw [hd]
              simp only [Bool.false_eq_true, if_false]
              have hp : y.put1 i e = y := by unfold Bm.put1; rw [if_neg h1, if_neg h8]
              rw [hp]
              exact Tri.ret rfl
        · rintro _ _ rfl
          refine Tri.drop ?_
          exact ih _ _ ⟨j + 1, _, rfl, by omega, hfo, rfl⟩ (by simp; omega)
      · intro hc
        have c1 : j = es.length := by simp at hc; omega
        rw [c1, List.drop_length, List.foldl_nil] at hfo
        rw [hfo]
        exact Tri.drop (Tri.ret rfl)
    · rfl
  · rintro _ _ rfl
    have hlg : ∀ j, ((es.foldl (fun y e => y.put1 i e) x1).get j).leg = (x1.get j).leg := fun j => puts_leg i j es x1
    generalize es.foldl (fun y e => y.put1 i e) x1 = y at hlg h3 ⊢
    refine Tri.ldP (cLeg i) (Tri.pick 1 rfl (Tri.bnd legWrongS ?_))
    rintro _ _ ⟨rfl, rfl⟩
    rw [bneN]
    refine Tri.pick 1 rfl ?_
    refine Tri.bnd (B := fun _ L' => L' = brI p c (if (x1.get i).leg.wrong ≠ 0 then y.set (!i) ((y.get (!i)).end_ 1001) else y) :: L) ?_ ?_
    · by_cases hw : (x1.get i).leg.wrong ≠ 0
      · rw [decide_eq_true hw, if_pos hw]
        simp only [if_true]
        refine Tri.bnd end__spec ?_
        rintro _ _ rfl
        refine brClose2 (x := y.set (!i) ((y.get (!i)).end_ 1001)) i rfl ?_ ?_ ?_ ?_ (Tri.ret rfl)
        · rw [get_set2, hlg]
        · rw [get_set, (end__leg _ _).1, hlg]
        · rw [get_set2]
        · rw [get_set, (end__leg _ _).2]
      · rw [decide_eq_false hw, if_neg hw]
        simp only [Bool.false_eq_true, if_false]
        exact brClose2 (x := y) i rfl (hlg i).symm (hlg (!i)).symm rfl rfl (Tri.ret rfl)
    · rintro _ _ rfl
      refine Tri.bnd (settle_spec hK h3.1 h3.2) ?_
      rintro _ _ rfl
      exact Tri.ret rfl
/-! ### Feed -/
def Bm.feedB (i : Bool) (m : Nat) : Bm → List UInt8 → Bm × Nat
  | x, [] => (x, 0)
  | x, b :: r => if (x.get i).deaf = true ∨ (x.get i).q.room m = false then (x, 0) else (((x.hear i b).feedB i m r).1, ((x.hear i b).feedB i m r).2 + 1)
def Bm.feed (x : Bm) (i : Bool) (m : Nat) (s : List UInt8) : Bm × Nat :=
  ((x.feedB i m s).1, if ((x.feedB i m s).1.get i).deaf = true then s.length else (x.feedB i m s).2)
theorem feedB_ok {i : Bool} {m : Nat} : ∀ {s : List UInt8} {x : Bm}, x.Ok → x.Fit → (x.feedB i m s).1.Ok ∧ (x.feedB i m s).1.Fit
  | [], x, h1, h2 => ⟨h1, h2⟩
  | b :: r, x, h1, h2 => by
    obtain ⟨q1, q2⟩ := hear_ok h1 h2 i b
    unfold Bm.feedB
    split
    · exact ⟨h1, h2⟩
    · exact feedB_ok (s := r) q1 q2
theorem feedB_cons (i : Bool) (m : Nat) (x : Bm) (b : UInt8) (r : List UInt8) : x.feedB i m (b :: r) = if (x.get i).deaf = true ∨ (x.get i).q.room m = false then (x, 0) else (((x.hear i b).feedB i m r).1, ((x.hear i b).feedB i m r).2 + 1) := rfl
theorem brFeed_spec {p : Nat} {c : Tapi_Config} {x : Bm} {i : Bool} {sl : Sl} {s : List UInt8} {m : Nat} (hK : KBig K) (hm : c.Message = (m : Int)) (hok : x.Ok) (hf : x.Fit) (hr : Rd ρ L sl 1 (bl s)) (hn : sl.n = s.length) (hb : s.length ≤ 1099511627776) :
    Tri ρ (brI p c x :: L) (bridge_Bridge_Feed K (some ⟨p, 0, none⟩) (ix i) sl) (fun r L' => r = (((x.feed i m s).2 : Nat) : Int) ∧ L' = brI p c (x.feed i m s).1 :: L) := by
  unfold bridge_Bridge_Feed
  rw [has_eq]
  have hd : decide (ix i = 0 ∨ ix i = 1) = true := by cases i <;> rfl
  rw [hd]
  simp only [bnd_ret, Bool.not_true, Bool.false_eq_true, if_false]
  refine Tri.nn (Tri.chk (ix_ok i) ?_)
  simp only [ofs0]
  refine Tri.bnd (B := fun r L' => r = (((x.feedB i m s).2 : Nat) : Int) ∧ L' = brI p c (x.feedB i m s).1 :: L) ?_ ?_
  · refine Tri.loop (μ := fun (k : Int) => s.length - k.toNat) (I := fun (k : Int) L' => ∃ (j : Nat) (y : Bm), k = j ∧ j ≤ s.length ∧ y.Ok ∧ y.Fit ∧ x.feedB i m s = ((y.feedB i m (s.drop j)).1, (y.feedB i m (s.drop j)).2 + j) ∧ L' = brI p c y :: L) ?_ (by unfold KBig at hK; simp; omega) ⟨0, x, rfl, by omega, hok, hf, rfl, rfl⟩
    rintro again _ L' ⟨j, y, rfl, hj, hy, hyf, hfe, rfl⟩ ih
    unfold bridge_Bridge_Feed_l0
    simp only [ofs0]
    have hout : (s.drop j = [] ∨ (y.get i).deaf = true ∨ (y.get i).q.room m = false) → Tri ρ (brI p c y :: L) (ret (j : Int)) (fun r L' => r = (((x.feedB i m s).2 : Nat) : Int) ∧ L' = brI p c (x.feedB i m s).1 :: L) := by
      intro h
      have : y.feedB i m (s.drop j) = (y, 0) := by
        cases hs : s.drop j with
        | nil => rfl
        | cons b r =>
          rw [feedB_cons]
          rcases h with h | h
          · rw [hs] at h; simp at h
          · rw [if_pos h]
      rw [hfe, this]
      exact Tri.ret ⟨by simp, rfl⟩
    by_cases hlt : j < s.length
    · have hdr : s.drop j = s[j] :: s.drop (j + 1) := List.drop_eq_getElem_cons hlt
      refine Tri.bnd (B := fun r L' => r = decide (¬ ((y.get i).deaf = true ∨ (y.get i).q.room m = false)) ∧ L' = brI p c y :: L) ?_ ?_
      · rw [hn]
        have hd : decide ((j : Int) < (s.length : Int)) = true := by simp; omega
        rw [hd]
        simp only [if_true]
        refine Tri.drw (Tri.bnd deaf_spec ?_)
        rintro _ _ ⟨rfl, rfl⟩
        cases hdf : (y.get i).deaf with
        | true => simp only [Bool.not_true, Bool.false_eq_true, if_false]; exact Tri.ret ⟨by simp, rfl⟩
        | false =>
          simp only [Bool.not_false, if_true]
          refine brOpen i fun l q => ?_
          rw [offa]
          refine Tri.ldP (cQ i) (Tri.nn (Tri.ldI (v := c.Message) (Cell.here (i := 3) rfl) ?_))
          rw [hm]
          refine Tri.pick 3 rfl (Tri.bnd qRoom_spec ?_)
          rintro _ _ ⟨rfl, rfl⟩
          refine Tri.order [1, 1, 1] rfl (brClose i (Tri.ret ⟨?_, rfl⟩))
          cases (y.get i).q.room m <;> simp
      · rintro _ _ ⟨rfl, rfl⟩
        by_cases hc : (y.get i).deaf = true ∨ (y.get i).q.room m = false
        · rw [decide_eq_false (fun h => h hc)]
          simp only [Bool.false_eq_true, if_false]
          exact hout (.inr hc)
        · rw [decide_eq_true hc]
          simp only [if_true]
          refine Tri.ixA j hr.tail rfl (by omega) (by intro e; have e9 := congrArg List.length e; rw [bl_length, List.length_nil] at e9; omega) fun x64 h64 => ?_
          have hv : (bl s)[j]? = some (byt s[j]) := by rw [bl_get, List.getElem?_eq_getElem hlt]; rfl
          refine Tri.ldI (h64.cell hr.tail hv (by omega)) ?_
          rw [hdr, feedB_cons, if_neg hc] at hfe
          generalize s[j] = b at hfe ⊢
          refine Tri.bnd (hear_spec hK hy hyf) ?_
          rintro _ _ rfl
          obtain ⟨q1, q2⟩ := hear_ok hy hyf i b
          refine Tri.lt ?_
          have hw1 : IntKind.wrap .i64 ((j : Int) + 1) = ((j + 1 : Nat) : Int) := by rw [w64 (by omega) (by omega)]; omega
          rw [hw1]
          exact ih _ _ ⟨j + 1, _, rfl, by omega, q1, q2, by rw [hfe]; simp; omega, rfl⟩ (by simp; omega)
    · refine Tri.val false ?_ ?_
      · rw [hn]
        have hd : decide ((j : Int) < (s.length : Int)) = false := by simp; omega
        rw [hd]
        simp only [Bool.false_eq_true, if_false]
        exact Tri.drw (Tri.ret ⟨rfl, rfl⟩)
      · simp only [Bool.false_eq_true, if_false]
        exact hout (.inl (List.drop_eq_nil_of_le (by omega)))
  · rintro _ _ ⟨rfl, rfl⟩
    refine Tri.bnd deaf_spec ?_
    rintro _ _ ⟨rfl, rfl⟩
    unfold Bm.feed
    cases ((x.feedB i m s).1.get i).deaf with
    | true =>
      simp only [if_true]
      exact Tri.lt (Tri.ret ⟨by rw [hn], rfl⟩)
    | false =>
      simp only [Bool.false_eq_true, if_false]
      exact Tri.ret ⟨rfl, rfl⟩
end Go.Proofs.YtjdnjlnfcbaokaaGreat

/-
  SPECS, 21: queue. Own work.
-/
import Derived.Test.YtjdnjlnfcbaokaaGreatSp17
set_option linter.unusedVariables false
set_option linter.unusedSimpArgs false
set_option maxRecDepth 20000
namespace Go.Proofs.YtjdnjlnfcbaokaaGreat
open Go Go.Lg
variable {α β σ τ : Type} {ρ : Hp} {L M : As} {K : Nat}

structure Qm where
  count : Nat
  bytes : Nat
  l : List Ev
def sizeQ (l : List Ev) : Nat := (l.map fun e => e.data.length).sum
theorem sizeQ_snoc (l : List Ev) (e : Ev) : sizeQ (l ++ [e]) = sizeQ l + e.data.length := by simp [sizeQ]
theorem sizeQ_cons (l : List Ev) (e : Ev) : sizeQ (e :: l) = e.data.length + sizeQ l := by simp [sizeQ]
structure Qm.Ok (q : Qm) : Prop where
  count : q.count ≤ 1024
  bytes : q.bytes ≤ 4194304
  len : q.l.length ≤ q.count
  size : sizeQ q.l ≤ q.bytes
def queueC (q : Qm) (s : Sl) : List Value := [.int .i64 q.count, .int .i64 q.bytes, .slice s.a s.n s.c, .int .i64 (sizeQ q.l : Nat)]
def queueI (a : Nat) (q : Qm) : Assn := fun h => q.Ok ∧ ∃ s : Sl, s.n = q.l.length ∧ sat [pts a (queueC q s), row s 3 (evl q.l)] h
theorem queueOpen {a : Nat} {q : Qm} {m : G β} {C : β → As → Prop} (h : q.Ok → ∀ s : Sl, s.n = q.l.length → Tri ρ (pts a (queueC q s) :: row s 3 (evl q.l) :: L) m C) : Tri ρ (queueI a q :: L) m C := by
  refine Tri.openA (P := fun N => q.Ok ∧ ∃ s : Sl, s.n = q.l.length ∧ N = [pts a (queueC q s), row s 3 (evl q.l)]) ?_ ?_
  · rintro k ⟨h1, s, h2, h3⟩; exact ⟨_, ⟨h1, s, h2, rfl⟩, h3⟩
  · rintro N ⟨h1, s, h2, rfl⟩; exact h h1 s h2
theorem queueClose {a : Nat} {q : Qm} {m : G β} {C : β → As → Prop} {s : Sl} (h1 : q.Ok) (h2 : s.n = q.l.length) (h : Tri ρ (queueI a q :: L) m C) : Tri ρ (pts a (queueC q s) :: row s 3 (evl q.l) :: L) m C :=
  Tri.close (N := [pts a (queueC q s), row s 3 (evl q.l)]) (fun k hk => ⟨h1, s, h2, hk⟩) h
theorem queue_New_spec {count bytes : Nat} (h1 : 0 < count) (h2 : count ≤ 1024) (h3 : 0 < bytes) (h4 : bytes ≤ 4194304) : Tri ρ L (queue_New K count bytes) (fun r L' => ∃ b, r = (some ⟨b, 0, none⟩, 0) ∧ L' = queueI b ⟨count, bytes, []⟩ :: L) := by
  unfold queue_New
  have d1 : decide ((count : Int) < 1) = false := by simp; omega
  have d2 : decide ((1024 : Int) < (count : Int)) = false := by simp; omega
  have d3 : decide ((bytes : Int) < 1) = false := by simp; omega
  have d4 : decide ((4194304 : Int) < (bytes : Int)) = false := by simp; omega
  rw [d1, d2, d3, d4]
  simp only [Bool.false_eq_true, if_false, bnd_ret]
  refine Tri.nilRow (sz := 3) (Tri.new fun b => ?_)
  exact queueClose (q := ⟨count, bytes, []⟩) (s := Sl.nil) ⟨h2, h4, by simp, by simp [sizeQ]⟩ rfl (Tri.ret ⟨b, rfl, rfl⟩)
theorem qLen_spec {a : Nat} {q : Qm} : Tri ρ (queueI a q :: L) (queue_Queue_Len K (some ⟨a, 0, none⟩)) (fun r L' => r = (q.l.length : Int) ∧ L' = queueI a q :: L) := by
  unfold queue_Queue_Len
  refine queueOpen fun hok s hs => Tri.nn (Tri.ldSl s (Cell.here (i := 2) rfl) (Tri.lt ?_))
  exact queueClose hok hs (Tri.ret ⟨by rw [hs], rfl⟩)
theorem qSize_spec {a : Nat} {q : Qm} : Tri ρ (queueI a q :: L) (queue_Queue_Size K (some ⟨a, 0, none⟩)) (fun r L' => r = (sizeQ q.l : Nat) ∧ L' = queueI a q :: L) := by
  unfold queue_Queue_Size
  refine queueOpen fun hok s hs => Tri.nn (Tri.ldI (Cell.here (i := 3) rfl) ?_)
  exact queueClose hok hs (Tri.ret ⟨rfl, rfl⟩)
def Qm.room (q : Qm) (n : Nat) : Bool := decide (q.l.length < q.count ∧ n ≤ q.bytes - sizeQ q.l ∧ sizeQ q.l + n ≤ q.bytes)
theorem qRoom_spec {a : Nat} {q : Qm} {n : Nat} : Tri ρ (queueI a q :: L) (queue_Queue_Room K (some ⟨a, 0, none⟩) (n : Int)) (fun r L' => r = q.room n ∧ L' = queueI a q :: L) := by
  unfold queue_Queue_Room
  simp only [bnd_ret, bnd_bnd, bnd_ite, bnd_lt, bnd_ldB, bnd_ldI, bnd_ldS, bnd_ldP, bnd_ldSl, bnd_ldG, bnd_nn, bnd_ixA, bnd_st, bnd_drw, bnd_strOf, bnd_new, bnd_slS, bnd_slA, bnd_slStr, bnd_app, bnd_appS, bnd_appT, bnd_appZ, bnd_chk, bnd_mk, bnd_cpy, bnd_wld, bnd_agr, bnd_bytesOf, bnd_drw2, bnd_mrk, bnd_fail, sumK_inl, sumK_inr, bnd_inr]
  refine queueOpen fun hok s hs => Tri.drw (Tri.nn ?_)
  have c0 : ∀ {L' : As} {t : Sl}, Cell ρ (pts a (queueC q t) :: L') ⟨a, 0, none⟩ (.int .i64 (q.count : Int)) := Cell.here (i := 0) rfl
  have e0 : (⟨a, 0, none⟩ : Addr).add 0 = ⟨a, 0, none⟩ := rfl
  rw [e0]
  refine Tri.wld1 c0 fun w12 h12 => Tri.ldI c0 ?_
  refine queueClose hok hs (Tri.bnd qLen_spec ?_)
  rintro _ _ ⟨rfl, rfl⟩
  refine queueOpen fun hok s hs => Tri.agr1 h12 c0 ?_
  have hb := hok.bytes
  have hz := hok.size
  unfold Qm.room
  by_cases h1 : q.l.length < q.count
  · have d1 : decide ((q.l.length : Int) < (q.count : Int)) = true := by simp; omega
    have d2 : decide ((0 : Int) ≤ (n : Int)) = true := by simp
    rw [d1, d2]
    simp only [if_true, bnd_nn, bnd_ldI, bnd_lt, bnd_ret]
    refine Tri.nn (Tri.ldI (Cell.here (i := 1) rfl) (Tri.nn (Tri.ldI (Cell.here (i := 3) rfl) (Tri.lt ?_))))
    refine queueClose hok hs (Tri.ret ⟨?_, rfl⟩)
    rw [w64 (by omega) (by omega), Bool.eq_iff_iff]; simp only [decide_eq_true_eq]; omega
  · have d1 : decide ((q.l.length : Int) < (q.count : Int)) = false := by simp; omega
    rw [d1]
    simp only [Bool.false_eq_true, if_false, bnd_ret]
    refine queueClose hok hs (Tri.ret ⟨?_, rfl⟩)
    rw [eq_comm, decide_eq_false]; exact fun h => h1 h.1
def Qm.put (q : Qm) (e : Ev) : Qm := if q.room e.data.length = true then { q with l := q.l ++ [e] } else q
theorem Qm.Ok.put {q : Qm} (h : q.Ok) (e : Ev) : (q.put e).Ok := by
  unfold Qm.put
  split
  · rename_i hr
    simp only [Qm.room, decide_eq_true_eq] at hr
    exact ⟨h.count, h.bytes, by show (q.l ++ [e]).length ≤ _; simp; omega, by show sizeQ (q.l ++ [e]) ≤ _; rw [sizeQ_snoc]; exact hr.2.2⟩
  · exact h
theorem evl_one' (es : List Ev) : (evl es).all one = true := by
  rw [List.all_eq_true]
  intro v hv
  simp only [evl, List.mem_flatMap, evc, List.mem_cons, List.not_mem_nil, or_false] at hv
  obtain ⟨_, _, rfl | rfl | rfl⟩ := hv <;> rfl
theorem qPut_spec {a : Nat} {q : Qm} {e : Ev} : Tri ρ (queueI a q :: L) (queue_Queue_Put K (some ⟨a, 0, none⟩) e.t) (fun _ L' => L' = queueI a (q.put e) :: L) := by
  unfold queue_Queue_Put
  refine Tri.new fun x1 => ?_
  have hec : Agg.cells e.t = evc e := rfl
  rw [hec]
  refine Tri.ldS (v := ba e.data) (Cell.here (i := 2) rfl) ?_
  rw [ba_size]
  refine Tri.pick 1 rfl (Tri.bnd qRoom_spec ?_)
  rintro _ _ ⟨rfl, rfl⟩
  cases hr : q.room e.data.length with
  | false =>
    simp only [Bool.not_false, if_true]
    have : q.put e = q := by unfold Qm.put; rw [if_neg (by rw [hr]; simp)]
    rw [this]
    exact Tri.pick 1 rfl (Tri.drop (Tri.ret rfl))
  | true =>
    simp only [Bool.not_true, Bool.false_eq_true, if_false]
    have hp : q.put e = { q with l := q.l ++ [e] } := by unfold Qm.put; rw [if_pos hr]
    rw [hp]
    refine queueOpen fun hok s hs => ?_
    have hok' := hok.put e
    rw [hp] at hok'
    have hcn := hok.count
    have hln := hok.len
    have hbt := hok.bytes
    have hsz := hok'.size
    have hsz' : sizeQ (q.l ++ [e]) ≤ q.bytes := hsz
    rw [sizeQ_snoc] at hsz'
    refine Tri.drw (Tri.nn ?_)
    refine Tri.pick 2 rfl (ldEv ?_)
    unfold queue_list_api_Event__push
    simp only [bnd_ret, bnd_bnd, bnd_ite, bnd_lt, bnd_ldB, bnd_ldI, bnd_ldS, bnd_ldP, bnd_ldSl, bnd_ldG, bnd_nn, bnd_ixA, bnd_st, bnd_drw, bnd_strOf, bnd_new, bnd_slS, bnd_slA, bnd_slStr, bnd_app, bnd_appS, bnd_appT, bnd_appZ, bnd_chk, bnd_mk, bnd_cpy, bnd_wld, bnd_agr, bnd_bytesOf, bnd_drw2, bnd_mrk, bnd_fail, sumK_inl, sumK_inr, bnd_inr]
    refine Tri.new fun x1' => ?_
    rw [hec]
    have c2 : ∀ {A B : Assn} {L' : As}, Cell ρ (A :: B :: pts a (queueC q s) :: L') ⟨a, 2, none⟩ (.slice s.a s.n s.c) := (Cell.here (i := 2) rfl).tail.tail
    have e2 : ((⟨a, 0, none⟩ : Addr).add 2) = ⟨a, 2, none⟩ := rfl
    have e20 : (⟨a, 2, none⟩ : Addr).add 0 = ⟨a, 2, none⟩ := rfl
    rw [e2]
    refine Tri.nn ?_
    rw [e20]
    refine Tri.ldSl s c2 (Tri.lt (Tri.drw (Tri.nn ?_)))
    rw [e20]
    refine Tri.wld1 c2 fun w7 h7 => Tri.ldSl s c2 ?_
    refine Tri.pick 3 rfl (Tri.rowLen fun hrl hrc => Tri.pick 1 rfl ?_)
    refine Tri.slS 0 s.n s.n (by rfl) (by rfl) (by rfl) (by omega) (Nat.le_refl _) hrc fun x8 h8 hc8 => ?_
    have hn8 := h8.n
    refine ldEv ?_
    refine Tri.new fun x10 => ?_
    rw [hec]
    have c2' : ∀ {A B C D : Assn} {L' : As}, Cell ρ (A :: B :: C :: D :: pts a (queueC q s) :: L') ⟨a, 2, none⟩ (.slice s.a s.n s.c) := (Cell.here (i := 2) rfl).tail.tail.tail.tail
    refine Tri.agr1 h7 c2' ?_
    refine Tri.pick 2 rfl (Tri.weak (fun k hk => h8.row (by omega) (by omega) hk) ?_)
    have er : ((evl q.l).drop (0 * 3)).take ((s.n - 0) * 3) = evl q.l := by rw [Nat.zero_mul, List.drop_zero, Nat.sub_zero, hs, ← evl_length, List.take_length]
    rw [er]
    refine Tri.appS (new := evc e) (Rd.pts (o := 0) rfl (by simp [evc]) rfl) rfl rfl (by rw [hn8, hs]; simp; omega) fun x11 h11 => ?_
    rw [← evl_snoc]
    refine Tri.nn ?_
    rw [e20]
    refine Tri.order [4] rfl (Tri.stB (i := 2) (l := [.slice x11.a x11.n x11.c]) (by rfl) (by simp [queueC]) rfl ?_)
    refine Tri.drw (Tri.nn (Tri.ldI (v := ((sizeQ q.l : Nat) : Int)) (Cell.here (i := 3) rfl) ?_))
    refine Tri.ldS (v := ba e.data) (Cell.here (i := 2) rfl).tail.tail.tail.tail ?_
    rw [ba_size]
    have ew : IntKind.wrap .i64 (((sizeQ q.l : Nat) : Int) + (e.data.length : Int)) = ((sizeQ (q.l ++ [e]) : Nat) : Int) := by rw [sizeQ_snoc, w64 (by omega) (by omega)]; omega
    rw [ew]
    refine Tri.nn (Tri.stB (i := 3) (l := [.int .i64 ((sizeQ (q.l ++ [e]) : Nat) : Int)]) (by rfl) (by simp [queueC, splice]) rfl ?_)
    have e3 : splice (splice (queueC q s) 2 [.slice x11.a x11.n x11.c]) 3 [.int .i64 ((sizeQ (q.l ++ [e]) : Nat) : Int)] = queueC { q with l := q.l ++ [e] } x11 := rfl
    rw [e3]
    refine Tri.order [0, 0] rfl ?_
    refine queueClose (q := { q with l := q.l ++ [e] }) hok' (by rw [h11, hn8, hs]; simp) ?_
    refine Tri.order [1] rfl (Tri.drop (Tri.order [1] rfl (Tri.drop (Tri.order [1] rfl (Tri.drop (Tri.ret rfl))))))
def Qm.first (q : Qm) : Ev := q.l.head?.getD Ev.none
theorem qPeek_spec {a : Nat} {q : Qm} : Tri ρ (queueI a q :: L) (queue_Queue_Peek K (some ⟨a, 0, none⟩)) (fun r L' => r = (q.first.t, !q.l.isEmpty) ∧ L' = queueI a q :: L) := by
  unfold queue_Queue_Peek queue_list_api_Event__first
  simp only [bnd_ret, bnd_bnd, bnd_ite, bnd_lt, bnd_ldB, bnd_ldI, bnd_ldS, bnd_ldP, bnd_ldSl, bnd_ldG, bnd_nn, bnd_ixA, bnd_st, bnd_drw, bnd_strOf, bnd_new, bnd_slS, bnd_slA, bnd_slStr, bnd_app, bnd_appS, bnd_appT, bnd_appZ, bnd_chk, bnd_mk, bnd_cpy, bnd_wld, bnd_agr, bnd_bytesOf, bnd_drw2, bnd_mrk, bnd_fail, sumK_inl, sumK_inr, bnd_inr]
  rw [evc_zero]
  refine Tri.new fun x1 => Tri.nn (Tri.new fun y1 => Tri.new fun y2 => ?_)
  refine Tri.pick 3 rfl (queueOpen fun hok s hs => ?_)
  have e2 : ((⟨a, 0, none⟩ : Addr).add 2) = ⟨a, 2, none⟩ := rfl
  have e20 : (⟨a, 2, none⟩ : Addr).add 0 = ⟨a, 2, none⟩ := rfl
  rw [e2]
  refine Tri.nn ?_
  rw [e20]
  refine Tri.ldSl s (Cell.here (i := 2) rfl) ?_
  rw [beqN, hs, isEmptyN]
  have fin : ∀ {ev : Ev} {b : Bool}, ev = q.first → b = (!q.l.isEmpty) → Tri ρ (pts y1 (evc ev) :: pts a (queueC q s) :: row s 3 (evl q.l) :: pts y2 (evc Ev.none) :: pts x1 (evc Ev.none) :: L)
      (ldG (α := Tapi_Event) ⟨y1, 0, none⟩ fun r6 => st ⟨x1, 0, none⟩ (.agg (Agg.cells (r6, b).1).toArray) <| ldG (α := Tapi_Event) ⟨x1, 0, none⟩ fun r4 => ret (r4, (r6, b).2)) (fun r L' => r = (q.first.t, !q.l.isEmpty) ∧ L' = queueI a q :: L) := by
    intro ev b h1 h2
    subst h1; subst h2
    refine ldEv (Tri.drop (queueClose hok hs ?_))
    refine Tri.pick 2 rfl (stEv (e := q.first) rfl (evc_len _) (ldEv (Tri.drop ?_)))
    exact Tri.pick 1 rfl (Tri.drop (Tri.ret ⟨rfl, rfl⟩))
  cases hq : q.l with
  | nil =>
    simp only [List.isEmpty_nil, if_true, bnd_ret, bnd_bnd, bnd_ite, bnd_lt, bnd_ldB, bnd_ldI, bnd_ldS, bnd_ldP, bnd_ldSl, bnd_ldG, bnd_nn, bnd_ixA, bnd_st, bnd_drw, bnd_strOf, bnd_new, bnd_slS, bnd_slA, bnd_slStr, bnd_app, bnd_appS, bnd_appT, bnd_appZ, bnd_chk, bnd_mk, bnd_cpy, bnd_wld, bnd_agr, bnd_bytesOf, bnd_drw2, bnd_mrk, bnd_fail, sumK_inl, sumK_inr, bnd_inr]
    refine Tri.pick 2 rfl (ldEv (Tri.pick 3 rfl (stEv (e := Ev.none) rfl (evc_len _) ?_)))
    rw [hq] at fin
    exact Tri.order [0, 1, 1] rfl (fin (ev := Ev.none) (by simp [Qm.first, hq]) rfl)
  | cons e r =>
    simp only [List.isEmpty_cons, Bool.false_eq_true, if_false, bnd_ret, bnd_bnd, bnd_ite, bnd_lt, bnd_ldB, bnd_ldI, bnd_ldS, bnd_ldP, bnd_ldSl, bnd_ldG, bnd_nn, bnd_ixA, bnd_st, bnd_drw, bnd_strOf, bnd_new, bnd_slS, bnd_slA, bnd_slStr, bnd_app, bnd_appS, bnd_appT, bnd_appZ, bnd_chk, bnd_mk, bnd_cpy, bnd_wld, bnd_agr, bnd_bytesOf, bnd_drw2, bnd_mrk, bnd_fail, sumK_inl, sumK_inr, bnd_inr]
    refine Tri.nn ?_
    rw [e20]
    refine Tri.ldSl s (Cell.here (i := 2) rfl) ?_
    have hrd : ∀ {A : Assn} {L' : As}, Rd ρ (A :: row s 3 (evl (e :: r)) :: L') s 3 (evl (e :: r)) := Rd.row.tail
    have hl0 : 0 < s.n := by rw [hs, hq]; simp
    refine Tri.ixA 0 hrd rfl hl0 (by simp [evl, evc]) fun x9 h9 => ?_
    refine Tri.ldG e.t rfl (h9.cells hrd hl0 (by simp [evl, evc]; rfl) rfl) ?_
    refine Tri.pick 3 rfl (stEv (e := e) rfl (evc_len _) ?_)
    rw [hq] at fin
    exact Tri.order [0] rfl (fin (ev := e) (by simp [Qm.first, hq]) rfl)
def Qm.pop (q : Qm) : Qm := { q with l := q.l.tail }
theorem Qm.Ok.pop {q : Qm} (h : q.Ok) : q.pop.Ok := by
  refine ⟨h.count, h.bytes, by have := h.len; show q.l.tail.length ≤ q.count; simp; omega, ?_⟩
  have := h.size
  show sizeQ q.l.tail ≤ q.bytes
  cases hl : q.l with
  | nil => simp [sizeQ]
  | cons e r => rw [hl, sizeQ_cons] at this; simp only [List.tail_cons]; omega
theorem qTake_spec {a : Nat} {q : Qm} : Tri ρ (queueI a q :: L) (queue_Queue_Take K (some ⟨a, 0, none⟩)) (fun r L' => r = (q.first.t, !q.l.isEmpty) ∧ L' = queueI a q.pop :: L) := by
  unfold queue_Queue_Take
  rw [evc_zero]
  refine Tri.new fun x1 => Tri.pick 1 rfl (Tri.bnd qPeek_spec ?_)
  rintro _ _ ⟨rfl, rfl⟩
  dsimp only
  refine Tri.new fun x3 => stEv (e := q.first) rfl (evc_len _) ?_
  refine Tri.bnd (B := fun _ L' => L' = queueI a q.pop :: pts x3 (evc q.first) :: pts x1 (evc Ev.none) :: L) ?_ ?_
  · cases hq : q.l with
    | nil =>
      simp only [List.isEmpty_nil, Bool.not_true, Bool.false_eq_true, if_false]
      have : q.pop = q := by unfold Qm.pop; rw [hq]; cases q; simp at hq; subst hq; rfl
      rw [this]
      exact Tri.pick 1 rfl (Tri.ret rfl)
    | cons e r =>
      simp only [List.isEmpty_cons, Bool.not_false, if_true]
      refine Tri.pick 1 rfl (queueOpen fun hok s hs => ?_)
      have hok' := hok.pop
      have hbt := hok.bytes
      have hsz := hok.size
      rw [hq, sizeQ_cons] at hsz
      rw [hq] at hs
      have hsn : s.n = r.length + 1 := hs
      have e2 : (((⟨a, 0, none⟩ : Addr).add 2).add 0) = ⟨a, 2, none⟩ := rfl
      refine Tri.nn ?_
      rw [e2]
      refine Tri.ldSl s (Cell.here (i := 2) rfl) ?_
      refine Tri.pick 1 rfl (Tri.rowLen fun hrl hrc => ?_)
      refine Tri.slS 1 s.n s.c (by rfl) (by rfl) (by rfl) (by omega) hrc (Nat.le_refl _) fun x14 h14 hc14 => ?_
      have hn14 := h14.n
      refine Tri.weak (fun k hk => h14.row (by omega) (by omega) hk) ?_
      have er : ((evl q.l).drop (1 * 3)).take ((s.n - 1) * 3) = evl r := by
        rw [hq]
        have : evl (e :: r) = evc e ++ evl r := by simp [evl]
        rw [this, List.drop_left' (evc_len e), List.take_of_length_le (by rw [evl_length]; omega)]
      rw [er]
      refine Tri.nn (Tri.pick 1 rfl ?_)
      rw [e2]
      refine Tri.stB (i := 2) (l := [.slice x14.a x14.n x14.c]) (by rfl) (by simp [queueC]) rfl ?_
      refine Tri.drw (Tri.nn (Tri.ldI (v := ((sizeQ q.l : Nat) : Int)) (Cell.here (i := 3) rfl) ?_))
      have hf : q.first = e := by simp [Qm.first, hq]
      rw [hf]
      refine Tri.ldS (v := ba e.data) (Cell.here (i := 2) rfl).tail.tail ?_
      rw [ba_size]
      have ew : IntKind.wrap .i64 (((sizeQ q.l : Nat) : Int) - (e.data.length : Int)) = ((sizeQ r : Nat) : Int) := by rw [hq, sizeQ_cons, w64 (by omega) (by omega)]; omega
      rw [ew]
      refine Tri.nn (Tri.stB (i := 3) (l := [.int .i64 ((sizeQ r : Nat) : Int)]) (by rfl) (by simp [queueC, splice]) rfl ?_)
      have hp : q.pop = { q with l := r } := by unfold Qm.pop; rw [hq]; rfl
      rw [hp] at hok' ⊢
      have e3 : splice (splice (queueC q s) 2 [.slice x14.a x14.n x14.c]) 3 [.int .i64 ((sizeQ r : Nat) : Int)] = queueC { q with l := r } x14 := rfl
      rw [e3]
      exact queueClose (q := { q with l := r }) hok' (by rw [hn14, hsn]; simp) (Tri.ret rfl)
  · rintro _ _ rfl
    refine Tri.pick 1 rfl (ldEv (Tri.drop ?_))
    refine Tri.pick 1 rfl (stEv (e := q.first) rfl (evc_len _) (ldEv (Tri.drop (Tri.ret ⟨rfl, rfl⟩))))
end Go.Proofs.YtjdnjlnfcbaokaaGreat

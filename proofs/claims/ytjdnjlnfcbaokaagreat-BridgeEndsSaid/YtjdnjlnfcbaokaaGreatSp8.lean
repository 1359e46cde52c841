/-
  SPECS, 8: msg. Own work.
-/
import Derived.Test.YtjdnjlnfcbaokaaGreatSp7
set_option linter.unusedVariables false
set_option linter.unusedSimpArgs false
set_option maxRecDepth 20000
namespace Go.Proofs.YtjdnjlnfcbaokaaGreat
open Go Go.Lg
variable {α β σ τ : Type} {ρ : Hp} {L M : As} {K : Nat}

structure Ev where
  op : Int
  code : Int
  data : List UInt8
deriving DecidableEq
def Ev.none : Ev := ⟨0, 0, []⟩
def Ev.t (e : Ev) : Tapi_Event := ⟨e.op, e.code, ba e.data⟩
def evc (e : Ev) : List Value := [.int .i64 e.op, .int .i64 e.code, .string (ba e.data)]
theorem evc_zero : ([.int .i64 (0 : Int), .int .i64 (0 : Int), .string (ByteArray.mk #[])] : List Value) = evc Ev.none := rfl
theorem evc_len (e : Ev) : (evc e).length = 3 := rfl
theorem evnone_t : Tapi_Event.mk (0 : Int) (0 : Int) (ByteArray.mk #[]) = Ev.none.t := rfl
theorem stEv {b : Nat} {cs : List Value} {t : Tapi_Event} {e : Ev} {f : G β} {C : β → As → Prop} (ht : t = e.t) (hcs : cs.length = 3) (h : Tri ρ (pts b (evc e) :: L) f C) :
    Tri ρ (pts b cs :: L) (st ⟨b, 0, none⟩ (.agg (Agg.cells t).toArray) f) C := by
  subst ht
  refine Tri.stB (l := evc e) (by rfl) (by rw [hcs]; simp [evc]) rfl ?_
  have : splice cs 0 (evc e) = evc e := by
    unfold splice
    rw [List.take_zero, List.nil_append, List.drop_eq_nil_of_le (by rw [hcs]; simp [evc]), List.append_nil]
  rw [this]; exact h
theorem ldEv {b : Nat} {e : Ev} {f : Tapi_Event → G β} {C : β → As → Prop} (h : Tri ρ (pts b (evc e) :: L) (f e.t) C) : Tri ρ (pts b (evc e) :: L) (ldG (α := Tapi_Event) ⟨b, 0, none⟩ f) C :=
  Tri.ldG e.t rfl (Cells.here (i := 0) (by simp [Agg.cells, evc]) (by rfl)) h
theorem retEv {b : Nat} {cs : List Value} {t : Tapi_Event} {e : Ev} {x : Bool} {y : Int} {C : Tapi_Event × Bool × Int → As → Prop} (ht : t = e.t) (hcs : cs.length = 3) (h : C (e.t, x, y) L) :
    Tri ρ (pts b cs :: L) (st ⟨b, 0, none⟩ (.agg (Agg.cells t).toArray) <| ldG (α := Tapi_Event) ⟨b, 0, none⟩ fun r => ret (r, x, y)) C :=
  stEv ht hcs (ldEv (Tri.drop (Tri.ret h)))
structure Ms where
  most : Nat
  op : Nat
  part : List UInt8
  text : Ut
  over : Bool
  err : Nat
def Ms.ok (m : Ms) : Prop := 0 < m.most ∧ m.most ≤ 1048576 ∧ m.part.length ≤ m.most ∧ m.text.left ≤ 3
def msgC (m : Ms) (p : Sl) (t : Nat) : List Value := [.int .i64 m.most, .int .i64 m.op, .slice p.a p.n p.c, .pointer (some ⟨t, 0, none⟩), .bool m.over, .int .i64 m.err]
def msgI (a : Nat) (m : Ms) : Assn := fun h => m.ok ∧ ∃ (p : Sl) (t : Nat), p.n = m.part.length ∧ sat [pts a (msgC m p t), row p 1 (bl m.part), pts t (utC m.text)] h
theorem msgOpen {a : Nat} {s : Ms} {m : G β} {C : β → As → Prop}
    (h : s.ok → ∀ (p : Sl) (t : Nat), p.n = s.part.length → Tri ρ (pts a (msgC s p t) :: row p 1 (bl s.part) :: pts t (utC s.text) :: L) m C) : Tri ρ (msgI a s :: L) m C := by
  refine Tri.openA (P := fun N => s.ok ∧ ∃ (p : Sl) (t : Nat), p.n = s.part.length ∧ N = [pts a (msgC s p t), row p 1 (bl s.part), pts t (utC s.text)]) ?_ ?_
  · rintro k ⟨h1, p, t, h2, h3⟩; exact ⟨_, ⟨h1, p, t, h2, rfl⟩, h3⟩
  · rintro N ⟨h1, p, t, h2, rfl⟩; exact h h1 p t h2
theorem msgClose {a : Nat} {s : Ms} {m : G β} {C : β → As → Prop} {p : Sl} {t : Nat} (h1 : s.ok)
    (h : Tri ρ (msgI a s :: L) m C) : Tri ρ (pts a (msgC s p t) :: row p 1 (bl s.part) :: pts t (utC s.text) :: L) m C := by
  refine Tri.pick 1 rfl (Tri.rowLen fun hl hc => Tri.pick 1 rfl ?_)
  exact Tri.close (N := [pts a (msgC s p t), row p 1 (bl s.part), pts t (utC s.text)]) (fun k hk => ⟨h1, p, t, by rw [bl_length] at hl; omega, hk⟩) h
theorem msg_New_spec {most : Nat} (h1 : 0 < most) (h2 : most ≤ 1048576) : Tri ρ L (msg_New K most) (fun r L' => ∃ b, r = (some ⟨b, 0, none⟩, 0) ∧ L' = msgI b ⟨most, 0, [], Ut.zero, false, 0⟩ :: L) := by
  unfold msg_New
  refine Tri.val false ?_ ?_
  · refine Tri.ite ?_ ?_
    · intro h; simp at h; omega
    · intro h; exact Tri.ret ⟨by simp; omega, rfl⟩
  simp only [Bool.false_eq_true, if_false]
  refine Tri.bnd utf_New_spec ?_
  rintro _ _ ⟨t, rfl, rfl⟩
  refine Tri.nilRow (sz := 1) (Tri.new fun b => ?_)
  exact msgClose (s := ⟨most, 0, [], Ut.zero, false, 0⟩) ⟨h1, h2, by simp, by show (0 : Nat) ≤ 3; omega⟩ (Tri.ret ⟨b, rfl, rfl⟩)
def Ms.stop (m : Ms) (e : Nat) : Ms := { m with err := e, op := 0, part := [] }
theorem Ms.stop_ok {m : Ms} (h : m.ok) (e : Nat) : (m.stop e).ok := ⟨h.1, h.2.1, by simp [Ms.stop], h.2.2.2⟩
theorem stop_spec {a : Nat} {m : Ms} {e : Nat} : Tri ρ (msgI a m :: L) (msg_Machine_stop K (some ⟨a, 0, none⟩) e) (fun r L' => r = (Ev.none.t, false, (e : Int)) ∧ L' = msgI a (m.stop e) :: L) := by
  unfold msg_Machine_stop
  rw [evc_zero]
  refine msgOpen fun hok p t hp => ?_
  refine Tri.new fun x1 => Tri.nn ?_
  refine Tri.pick 1 rfl ?_
  refine Tri.stB (i := 5) (l := [.int .i64 (e : Int)]) (by rfl) (by simp [msgC]) rfl (Tri.nn ?_)
  refine Tri.stB (i := 1) (l := [.int .i64 (0 : Int)]) (by rfl) (by simp [msgC, splice]) rfl (Tri.nn ?_)
  refine Tri.stB (i := 2) (l := [.slice Sl.nil.a Sl.nil.n Sl.nil.c]) (by rfl) (by simp [msgC, splice]) rfl ?_
  have e1 : splice (splice (splice (msgC m p t) 5 [.int .i64 (e : Int)]) 1 [.int .i64 (0 : Int)]) 2 [.slice Sl.nil.a Sl.nil.n Sl.nil.c] = msgC (m.stop e) Sl.nil t := rfl
  rw [e1, evnone_t]
  refine Tri.pick 1 rfl (stEv rfl (evc_len _) (ldEv (Tri.drop ?_)))
  refine Tri.pick 1 rfl (Tri.drop (Tri.nilRow (sz := 1) (Tri.pick 1 rfl ?_)))
  exact msgClose (s := m.stop e) (Ms.stop_ok hok e) (Tri.ret ⟨rfl, rfl⟩)
def Ms.endM (m : Ms) (f : Fr) : Ms × Ev × Bool × Nat :=
  let g := closeGet f.data
  if g.2.2 ≠ 0 then (m.stop g.2.2, Ev.none, false, g.2.2) else (({ m with over := true } : Ms).stop 0, ⟨8, g.1, g.2.1⟩, true, 0)
theorem ldS_fr {b : Nat} {f : Fr} : Cell ρ (pts b (Agg.cells f.t) :: L) ((⟨b, 0, none⟩ : Addr).add 7) (.string (ba f.data)) := Cell.here (i := 7) rfl
theorem end_spec {a : Nat} {m : Ms} {f : Fr} (hK : KBig K) (hb : f.data.length ≤ 1099511627776) : Tri ρ (msgI a m :: L) (msg_Machine_end K (some ⟨a, 0, none⟩) f.t)
    (fun r L' => r = ((m.endM f).2.1.t, (m.endM f).2.2.1, ((m.endM f).2.2.2 : Int)) ∧ L' = msgI a (m.endM f).1 :: L) := by
  unfold msg_Machine_end
  rw [evc_zero]
  refine Tri.new fun x1 => Tri.new fun x2 => ?_
  refine Tri.ldS ldS_fr.tail ?_
  refine Tri.bnd (close_Get_spec hK hb) ?_
  rintro _ _ ⟨rfl, rfl⟩
  generalize hg : closeGet f.data = g
  dsimp only
  by_cases h0 : g.2.2 = 0
  · have hd : ((g.2.2 : Int) != 0) = false := by simp; omega
    rw [hd]
    simp only [Bool.false_eq_true, if_false]
    refine Tri.nn ?_
    refine Tri.pick 2 rfl (msgOpen fun hok p t hp => ?_)
    refine Tri.stB (i := 4) (l := [.bool true]) (by rfl) (by simp [msgC]) rfl ?_
    have e1 : splice (msgC m p t) 4 [.bool true] = msgC { m with over := true } p t := rfl
    rw [e1]
    refine msgClose (s := { m with over := true }) hok ?_
    refine Tri.bnd stop_spec ?_
    rintro _ _ ⟨rfl, rfl⟩
    have hm : m.endM f = (({ m with over := true } : Ms).stop 0, ⟨8, g.1, g.2.1⟩, true, 0) := by simp only [Ms.endM, hg]; rw [if_neg (by omega)]
    rw [hm]
    refine Tri.pick 1 rfl (stEv (e := ⟨8, g.1, g.2.1⟩) rfl (evc_len _) (ldEv (Tri.drop ?_)))
    exact Tri.pick 1 rfl (Tri.drop (Tri.ret ⟨rfl, rfl⟩))
  · have hd : ((g.2.2 : Int) != 0) = true := by simp; omega
    rw [hd]
    simp only [if_true]
    refine Tri.pick 2 rfl (Tri.bnd stop_spec ?_)
    rintro _ _ ⟨rfl, rfl⟩
    have hm : m.endM f = (m.stop g.2.2, Ev.none, false, g.2.2) := by simp only [Ms.endM, hg]; rw [if_pos h0]
    rw [hm]
    refine Tri.pick 1 rfl (stEv rfl (evc_len _) (ldEv (Tri.drop ?_)))
    exact Tri.pick 1 rfl (Tri.drop (Tri.ret ⟨rfl, rfl⟩))
/-- what a message's frame comes to -/
def Ms.begun (m : Ms) (f : Fr) : Ms := if m.op = 0 then { m with op := f.op, text := Ut.zero } else m
def wrongU (u : Ut) (f : Fr) : Bool := (utFeed u f.data).bad || (f.fin && !(!(utFeed u f.data).bad && (utFeed u f.data).left == 0))
def Ms.dataM (m : Ms) (f : Fr) : Ms × Ev × Bool × Nat :=
  if (f.op == 0) ≠ (m.op != 0) then (m.stop 120, Ev.none, false, 120) else
  let m1 := m.begun f
  if m1.most < m1.part.length + f.data.length then (m1.stop 121, Ev.none, false, 121) else
  let m2 : Ms := if m1.op = 1 then { m1 with text := utFeed m1.text f.data } else m1
  if m1.op = 1 ∧ wrongU m1.text f = true then (m2.stop 122, Ev.none, false, 122) else
  let m3 : Ms := { m2 with part := m2.part ++ f.data }
  if f.fin = false then (m3, Ev.none, false, 0) else (m3.stop 0, ⟨m3.op, 0, m3.part⟩, true, 0)
theorem wrong_spec {x1 x2 a t : Nat} {cs : List Value} {u : Ut} {f : Fr} (hK : KBig K) (hl : u.left ≤ 3) (hb : f.data.length ≤ 1099511627776) (hcs : cs[3]? = some (.pointer (some ⟨t, 0, none⟩))) :
    Tri ρ (pts t (utC u) :: pts x1 [.pointer (some ⟨a, 0, none⟩)] :: pts a cs :: pts x2 (frc f) :: L) (msg_Machine_data_1 K ⟨x1, 0, none⟩ ⟨x2, 0, none⟩)
      (fun r L' => r = wrongU u f ∧ L' = pts t (utC (utFeed u f.data)) :: pts x1 [.pointer (some ⟨a, 0, none⟩)] :: pts a cs :: pts x2 (frc f) :: L) := by
  unfold msg_Machine_data_1
  have c1 : ∀ {x : Assn} {L' : As}, Cell ρ (x :: pts x1 [.pointer (some ⟨a, 0, none⟩)] :: L') ⟨x1, 0, none⟩ (.pointer (some ⟨a, 0, none⟩)) := (Cell.here (i := 0) rfl).tail
  have c2 : ∀ {x y : Assn} {L' : As}, Cell ρ (x :: y :: pts a cs :: L') ⟨a, 3, none⟩ (.pointer (some ⟨t, 0, none⟩)) := (Cell.here (i := 3) hcs).tail.tail
  have e3 : (⟨a, 0, none⟩ : Addr).add 3 = ⟨a, 3, none⟩ := rfl
  refine Tri.drw ?_
  refine Tri.wld1 c1 fun w2 hw2 => ?_
  refine Tri.ldP c1 (Tri.nn ?_)
  rw [e3]
  refine Tri.wld1 c2 fun w5 hw5 => ?_
  refine Tri.ldP c2 ?_
  refine Tri.ldS (Cell.here (i := 7) rfl).tail.tail.tail ?_
  refine Tri.bytesOf fun x7 h7 _ => ?_
  rw [bytes_ba]
  rw [ba_size] at h7
  refine Tri.agr1 hw2 c1.tail (Tri.agr1 hw5 c2.tail ?_)
  refine Tri.pick 1 rfl (Tri.bnd (utFeed_spec hK hl Rd.row h7 hb) ?_)
  rintro _ _ rfl
  refine Tri.pick 1 rfl (Tri.drop ?_)
  refine Tri.ldP c1 (Tri.nn ?_)
  rw [e3]
  refine Tri.ldP c2 ?_
  unfold utf_Checker_Right
  simp only [bnd_ret, bnd_bnd, bnd_ite, bnd_lt, bnd_ldB, bnd_ldI, bnd_ldS, bnd_ldP, bnd_ldSl, bnd_ldG, bnd_nn, bnd_ixA, bnd_st, bnd_drw, bnd_strOf, bnd_new, bnd_slS, bnd_slA, bnd_slStr, bnd_app, bnd_appS, bnd_appT, bnd_appZ, bnd_chk, bnd_mk, bnd_cpy, bnd_wld, bnd_agr, bnd_bytesOf, bnd_drw2, bnd_mrk, bnd_fail, sumK_inl, sumK_inr, bnd_inr]
  refine Tri.nn (Tri.ldB (Cell.here (i := 4) rfl) (Tri.lt ?_))
  cases hbad : (utFeed u f.data).bad with
  | true => exact Tri.ret ⟨by simp [wrongU, hbad], rfl⟩
  | false =>
    refine Tri.ldB (Cell.here (i := 0) rfl).tail.tail.tail ?_
    cases hfin : f.fin with
    | false => exact Tri.ret ⟨by simp [wrongU, hbad, hfin], rfl⟩
    | true =>
      refine Tri.ldP c1 (Tri.nn ?_)
      rw [e3]
      refine Tri.ldP c2 ?_
      refine Tri.bnd whole_spec ?_
      rintro _ _ ⟨rfl, rfl⟩
      exact Tri.ret ⟨by simp [wrongU, hbad, hfin], rfl⟩
theorem data_spec {a : Nat} {m : Ms} {f : Fr} (hK : KBig K) (hb : f.data.length ≤ 1099511627776) : Tri ρ (msgI a m :: L) (msg_Machine_data K (some ⟨a, 0, none⟩) f.t)
    (fun r L' => r = ((m.dataM f).2.1.t, (m.dataM f).2.2.1, ((m.dataM f).2.2.2 : Int)) ∧ L' = msgI a (m.dataM f).1 :: L) := by
  unfold msg_Machine_data
  rw [evc_zero]
  refine Tri.new fun x1 => Tri.new fun x2 => Tri.new fun x3 => ?_
  have hfc : Agg.cells f.t = frc f := rfl
  rw [hfc]
  refine Tri.pick 3 rfl (msgOpen fun hok p t hp => ?_)
  -- the order: machine, its part, its text, then the event, the frame, the variable
  have c1 : ∀ {u v w x y : Assn} {L' : As}, Cell ρ (u :: v :: w :: x :: y :: pts x1 [.pointer (some ⟨a, 0, none⟩)] :: L') ⟨x1, 0, none⟩ (.pointer (some ⟨a, 0, none⟩)) := (Cell.here (i := 0) rfl).tail.tail.tail.tail.tail
  refine Tri.drw ?_
  refine Tri.ldI (Cell.here (i := 1) rfl).tail.tail.tail.tail (Tri.ldP c1 (Tri.nn (Tri.ldI (Cell.here (i := 1) rfl) ?_)))
  have ecmp : (!(((f.op : Int) == 0) == ((m.op : Int) != 0))) = decide ((f.op == 0) ≠ (m.op != 0)) := by
    have h1 : ((f.op : Int) == 0) = (f.op == 0) := beqI f.op 0
    have h2 : ((m.op : Int) != 0) = (m.op != 0) := by unfold bne; rw [show ((m.op : Int) == 0) = (m.op == 0) from beqI m.op 0]
    rw [h1, h2]
    cases (f.op == 0) <;> cases (m.op != 0) <;> rfl
  rw [ecmp]
  -- ends
  have stopE : ∀ {q : Ms} {p' : Sl} {e : Nat}, q.ok → Tri ρ (pts a (msgC q p' t) :: row p' 1 (bl q.part) :: pts t (utC q.text) :: pts x3 (evc Ev.none) :: pts x2 (frc f) :: pts x1 [.pointer (some ⟨a, 0, none⟩)] :: L)
      (ldP ⟨x1, 0, none⟩ fun x8 => bnd (msg_Machine_stop K x8 (e : Int)) fun x9 => st ⟨x3, 0, none⟩ (.agg (Agg.cells x9.1).toArray) <| ldG (α := Tapi_Event) ⟨x3, 0, none⟩ fun r10 => ret (r10, x9.2.1, x9.2.2))
      (fun r L' => r = (Ev.none.t, false, (e : Int)) ∧ L' = msgI a (q.stop e) :: L) := by
    intro q p' e hq
    refine Tri.ldP c1 (msgClose hq (Tri.bnd stop_spec ?_))
    rintro _ _ ⟨rfl, rfl⟩
    refine Tri.pick 1 rfl (stEv rfl (evc_len _) (ldEv (Tri.drop ?_)))
    exact Tri.pick 1 rfl (Tri.drop (Tri.pick 1 rfl (Tri.drop (Tri.ret ⟨rfl, rfl⟩))))
  refine Tri.ite ?_ ?_
  · intro h
    have h' : (f.op == 0) ≠ (m.op != 0) := by simpa using h
    have hm : m.dataM f = (m.stop 120, Ev.none, false, 120) := by simp only [Ms.dataM]; rw [if_pos h']
    rw [hm]
    exact stopE hok
  intro h
  have h' : ¬ (f.op == 0) ≠ (m.op != 0) := by simpa using h
  clear h ecmp
  -- begun
  refine Tri.ldP c1 (Tri.nn (Tri.ldI (Cell.here (i := 1) rfl) ?_))
  have hok1 : (m.begun f).ok := by
    unfold Ms.begun; split
    · exact ⟨hok.1, hok.2.1, hok.2.2.1, by show (0 : Nat) ≤ 3; omega⟩
    · exact hok
  refine Tri.bnd (B := fun _ L' => L' = pts a (msgC (m.begun f) p t) :: row p 1 (bl (m.begun f).part) :: pts t (utC (m.begun f).text) :: pts x3 (evc Ev.none) :: pts x2 (frc f) :: pts x1 [.pointer (some ⟨a, 0, none⟩)] :: L) ?_ ?_
  · refine Tri.ite ?_ ?_
    · intro h0
      have h0' : m.op = 0 := by simp at h0; omega
      have hbg : m.begun f = { m with op := f.op, text := Ut.zero } := by simp [Ms.begun, h0']
      rw [hbg]
      refine Tri.ldP c1 (Tri.ldI (Cell.here (i := 1) rfl).tail.tail.tail.tail (Tri.nn ?_))
      refine Tri.stB (i := 1) (l := [.int .i64 (f.op : Int)]) (by rfl) (by simp [msgC]) rfl ?_
      refine Tri.ldP c1 (Tri.nn (Tri.ldP (Cell.here (i := 3) rfl) ?_))
      unfold utf_Checker_Reset
      simp only [bnd_ret, bnd_bnd, bnd_ite, bnd_lt, bnd_ldB, bnd_ldI, bnd_ldS, bnd_ldP, bnd_ldSl, bnd_ldG, bnd_nn, bnd_ixA, bnd_st, bnd_drw, bnd_strOf, bnd_new, bnd_slS, bnd_slA, bnd_slStr, bnd_app, bnd_appS, bnd_appT, bnd_appZ, bnd_chk, bnd_mk, bnd_cpy, bnd_wld, bnd_agr, bnd_bytesOf, bnd_drw2, bnd_mrk, bnd_fail, sumK_inl, sumK_inr, bnd_inr]
      refine Tri.nn (Tri.pick 2 rfl ?_)
      refine Tri.stB (i := 0) (l := utC Ut.zero) (by rfl) (by simp [utC]) rfl ?_
      have e2 : splice (utC m.text) 0 (utC Ut.zero) = utC Ut.zero := rfl
      rw [e2]
      exact Tri.order [1, 1] rfl (Tri.ret rfl)
    · intro h0
      have h0' : m.op ≠ 0 := by simp at h0; omega
      have hbg : m.begun f = m := by simp [Ms.begun, h0']
      rw [hbg]
      exact Tri.ret rfl
  rintro _ _ rfl
  have hp1 : p.n = (m.begun f).part.length := by unfold Ms.begun; split <;> exact hp
  have hm : m.dataM f = (let m1 := m.begun f
    if m1.most < m1.part.length + f.data.length then (m1.stop 121, Ev.none, false, 121) else
    let m2 : Ms := if m1.op = 1 then { m1 with text := utFeed m1.text f.data } else m1
    if m1.op = 1 ∧ wrongU m1.text f = true then (m2.stop 122, Ev.none, false, 122) else
    let m3 : Ms := { m2 with part := m2.part ++ f.data }
    if f.fin = false then (m3, Ev.none, false, 0) else (m3.stop 0, ⟨m3.op, 0, m3.part⟩, true, 0)) := by
      simp only [Ms.dataM]; rw [if_neg h']
  rw [hm]
  clear hm h'
  generalize m.begun f = q at hok1 hp1 ⊢
  clear hok hp m
  obtain ⟨q1, q2, q3, q4⟩ := hok1
  have hok1 : q.ok := ⟨q1, q2, q3, q4⟩
  dsimp only
  refine Tri.drw ?_
  refine Tri.ldP c1 (Tri.nn (Tri.ldSl p (Cell.here (i := 2) rfl) ?_))
  refine Tri.ldS (Cell.here (i := 7) rfl).tail.tail.tail.tail ?_
  refine Tri.ldP c1 (Tri.nn (Tri.ldI (Cell.here (i := 0) rfl) ?_))
  rw [ba_size, w64 (by omega) (by omega)]
  refine Tri.ite ?_ ?_
  · intro h
    have h' : q.most < q.part.length + f.data.length := by simp at h; omega
    rw [if_pos h']
    exact stopE hok1
  intro h
  have hlong : ¬ q.most < q.part.length + f.data.length := by simp at h; omega
  rw [if_neg hlong]
  clear h
  refine Tri.ldP c1 (Tri.nn (Tri.ldI (Cell.here (i := 1) rfl) ?_))
  refine Tri.bnd (B := fun r L' => r = decide (q.op = 1 ∧ wrongU q.text f = true) ∧ L' = pts a (msgC q p t) :: row p 1 (bl q.part) :: pts t (utC (if q.op = 1 then utFeed q.text f.data else q.text)) :: pts x3 (evc Ev.none) :: pts x2 (frc f) :: pts x1 [.pointer (some ⟨a, 0, none⟩)] :: L) ?_ ?_
  · refine Tri.ite ?_ ?_
    · intro h1
      have h1' : q.op = 1 := by simp at h1; omega
      rw [if_pos h1']
      refine Tri.order [2, 4, 0, 2] rfl ?_
      refine Tri.bnd (wrong_spec hK q4 hb rfl) ?_
      rintro _ _ ⟨rfl, rfl⟩
      refine Tri.order [2, 3, 0, 2, 1] rfl (Tri.ret ⟨?_, rfl⟩)
      rw [Bool.eq_iff_iff]; simp [h1']
    · intro h1
      have h1' : ¬ q.op = 1 := by simp at h1; omega
      rw [if_neg h1']
      exact Tri.ret ⟨by simp [h1'], rfl⟩
  rintro _ _ ⟨rfl, rfl⟩
  have ht : (if q.op = 1 then utFeed q.text f.data else q.text) = (if q.op = 1 then ({ q with text := utFeed q.text f.data } : Ms) else q).text := by split <;> rfl
  have hpt : (if q.op = 1 then ({ q with text := utFeed q.text f.data } : Ms) else q).part = q.part := by split <;> rfl
  have hmc : msgC q p t = msgC (if q.op = 1 then ({ q with text := utFeed q.text f.data } : Ms) else q) p t := by split <;> rfl
  have hop : (if q.op = 1 then ({ q with text := utFeed q.text f.data } : Ms) else q).op = q.op := by split <;> rfl
  have hmo : (if q.op = 1 then ({ q with text := utFeed q.text f.data } : Ms) else q).most = q.most := by split <;> rfl
  have hok2 : (if q.op = 1 then ({ q with text := utFeed q.text f.data } : Ms) else q).ok := by
    split
    · exact ⟨q1, q2, q3, utFeed_left q4⟩
    · exact hok1
  rw [ht, hmc]
  conv in row p 1 (bl q.part) => rw [← hpt]
  generalize (if q.op = 1 then ({ q with text := utFeed q.text f.data } : Ms) else q) = z at hpt hop hmo hok2 ⊢
  refine Tri.ite ?_ ?_
  · intro h
    have h' : q.op = 1 ∧ wrongU q.text f = true := by simpa using h
    rw [if_pos h']
    exact stopE hok2
  intro h
  have hw : ¬ (q.op = 1 ∧ wrongU q.text f = true) := by simpa using h
  rw [if_neg hw]
  clear h
  refine Tri.drw ?_
  refine Tri.wld1 c1 fun w48 hw48 => ?_
  refine Tri.ldP c1 (Tri.ldP c1 (Tri.nn (Tri.ldSl p (Cell.here (i := 2) rfl) ?_)))
  refine Tri.ldS (Cell.here (i := 7) rfl).tail.tail.tail.tail ?_
  refine Tri.pick 1 rfl (Tri.appT (by rw [ba_size]; omega) fun x53 h53 => ?_)
  rw [bytes_ba, ← bl_append]
  rw [ba_size] at h53
  refine Tri.pick 1 rfl (Tri.agr1 hw48 c1 (Tri.nn ?_))
  refine Tri.stB (i := 2) (l := [.slice x53.a x53.n x53.c]) (by rfl) (by simp [msgC]) rfl ?_
  have e2 : splice (msgC z p t) 2 [.slice x53.a x53.n x53.c] = msgC { z with part := z.part ++ f.data } x53 t := rfl
  rw [e2]
  have hok3 : ({ z with part := z.part ++ f.data } : Ms).ok := ⟨hok2.1, hok2.2.1, by show (z.part ++ f.data).length ≤ z.most; rw [hmo, List.length_append, hpt]; omega, hok2.2.2.2⟩
  have hx53 : x53.n = ({ z with part := z.part ++ f.data } : Ms).part.length := by show _ = (z.part ++ f.data).length; rw [List.length_append, hpt]; omega
  refine Tri.ldB (Cell.here (i := 0) rfl).tail.tail.tail.tail ?_
  have hzt : pts t (utC z.text) = pts t (utC ({ z with part := z.part ++ f.data } : Ms).text) := rfl
  have hzr : row x53 1 (bl (z.part ++ f.data)) = row x53 1 (bl ({ z with part := z.part ++ f.data } : Ms).part) := rfl
  have hyo : ({ z with part := z.part ++ f.data } : Ms).op = z.op := rfl
  have hyp : ({ z with part := z.part ++ f.data } : Ms).part = z.part ++ f.data := rfl
  rw [hzt, hzr]
  generalize ({ z with part := z.part ++ f.data } : Ms) = y at hok3 hx53 hyo hyp ⊢
  rw [← hyo, ← hyp]
  cases hfin : f.fin with
  | false =>
    simp only [Bool.not_false, if_true]
    rw [evnone_t]
    refine msgClose hok3 ?_
    refine Tri.pick 1 rfl (stEv rfl (evc_len _) (ldEv (Tri.drop ?_)))
    exact Tri.pick 1 rfl (Tri.drop (Tri.pick 1 rfl (Tri.drop (Tri.ret ⟨rfl, rfl⟩))))
  | true =>
    simp only [Bool.not_true, Bool.false_eq_true, if_false, Bool.true_eq_false]
    refine Tri.drw ?_
    have ea1 : (⟨a, 0, none⟩ : Addr).add 1 = ⟨a, 1, none⟩ := rfl
    have ea2 : (⟨a, 0, none⟩ : Addr).add 2 = ⟨a, 2, none⟩ := rfl
    have c3 : ∀ {L' : As}, Cell ρ (pts a (msgC y x53 t) :: L') ⟨a, 1, none⟩ (.int .i64 y.op) := Cell.here rfl
    have c4 : ∀ {L' : As}, Cell ρ (pts a (msgC y x53 t) :: L') ⟨a, 2, none⟩ (.slice x53.a x53.n x53.c) := Cell.here rfl
    have c5 : ∀ {x : Assn} {L' : As}, Rd ρ (x :: row x53 1 (bl y.part) :: L') x53 1 (bl y.part) := Rd.row.tail
    refine Tri.wld1 c1 fun w58 h58 => Tri.ldP c1 (Tri.nn ?_)
    rw [ea1]
    refine Tri.wld1 c3 fun w61 h61 => Tri.ldI c3 ?_
    refine Tri.wld1 c1 fun w63 h63 => Tri.ldP c1 (Tri.nn ?_)
    rw [ea2]
    refine Tri.wld1 c4 fun w66 h66 => Tri.ldSl x53 c4 ?_
    refine Tri.wldS c5 fun w68 h68 => Tri.strOf (t := ba y.part) (by rw [bytes_ba]; exact c5) ?_
    refine Tri.new fun x69 => ?_
    refine Tri.agr1 h58 c1.tail (Tri.agr1 h61 c3.tail (Tri.agr1 h63 c1.tail (Tri.agr1 h66 c4.tail (Tri.agrS h68 c5.tail ?_))))
    refine stEv (e := ⟨y.op, 0, y.part⟩) rfl (evc_len _) ?_
    refine Tri.ldP c1.tail ?_
    refine Tri.order [1, 1, 1] rfl (msgClose hok3 (Tri.bnd (stop_spec (e := 0)) ?_))
    rintro _ _ ⟨rfl, rfl⟩
    refine Tri.pick 1 rfl (ldEv (Tri.drop ?_))
    refine Tri.pick 1 rfl (stEv (e := ⟨y.op, 0, y.part⟩) rfl (evc_len _) (ldEv (Tri.drop ?_)))
    exact Tri.pick 1 rfl (Tri.drop (Tri.pick 1 rfl (Tri.drop (Tri.ret ⟨rfl, rfl⟩))))
/-- a frame taken -/
def Ms.take (m : Ms) (f : Fr) : Ms × Ev × Bool × Nat :=
  if m.err ≠ 0 then (m, Ev.none, false, m.err) else
  if m.over = true then (m, Ev.none, false, 0) else
  if chkF f = 91 then (m.stop 120, Ev.none, false, 120) else
  if f.op = 8 then m.endM f else
  if ctlOp f.op = true then (m, ⟨f.op, 0, f.data⟩, true, 0) else m.dataM f
theorem mtake_spec {a : Nat} {m : Ms} {f : Fr} (hK : KBig K) (hb : f.data.length ≤ 1099511627776) : Tri ρ (msgI a m :: L) (msg_Machine_Take K (some ⟨a, 0, none⟩) f.t)
    (fun r L' => r = ((m.take f).2.1.t, (m.take f).2.2.1, ((m.take f).2.2.2 : Int)) ∧ L' = msgI a (m.take f).1 :: L) := by
  unfold msg_Machine_Take
  rw [evc_zero]
  refine Tri.new fun x1 => Tri.new fun x2 => ?_
  have hfc : Agg.cells f.t = frc f := rfl
  rw [hfc]
  refine Tri.pick 2 rfl (msgOpen fun hok p t hp => ?_)
  refine Tri.nn (Tri.ldI (Cell.here (i := 5) rfl) (Tri.lt ?_))
  have fin : ∀ {e : Ev} {x : Bool} {y : Int} {q : Ms} {tt : Tapi_Event} {cs : List Value}, tt = e.t → cs.length = 3 → m.take f = (q, e, x, y.toNat) → 0 ≤ y → Tri ρ (msgI a q :: pts x2 cs :: pts x1 (frc f) :: L)
      (st ⟨x2, 0, none⟩ (.agg (Agg.cells tt).toArray) <| ldG (α := Tapi_Event) ⟨x2, 0, none⟩ fun r9 => ret (r9, x, y)) (fun r L' => r = ((m.take f).2.1.t, (m.take f).2.2.1, ((m.take f).2.2.2 : Int)) ∧ L' = msgI a (m.take f).1 :: L) := by
    intro e x y q tt cs ht hcs hm hy
    rw [hm]
    refine Tri.pick 1 rfl (stEv ht hcs (ldEv (Tri.drop ?_)))
    exact Tri.pick 1 rfl (Tri.drop (Tri.ret ⟨by rw [Int.toNat_of_nonneg hy], rfl⟩))
  by_cases h1 : m.err = 0
  · have hd : ((m.err : Int) != 0) = false := by simp; omega
    rw [hd]
    simp only [Bool.false_eq_true, if_false]
    refine Tri.nn (Tri.ldB (Cell.here (i := 4) rfl) ?_)
    refine msgClose hok ?_
    cases h2 : m.over with
    | true =>
      simp only [if_true]
      exact fin (e := Ev.none) (y := 0) rfl (evc_len _) (by simp [Ms.take, h1, h2]) (by omega)
    | false =>
      simp only [Bool.false_eq_true, if_false]
      refine Tri.ldG f.t rfl (Cells.here (i := 0) (by simp [Fr.cells, frc]) rfl).tail.tail ?_
      refine Tri.bnd frame_Check_spec ?_
      rintro _ _ ⟨rfl, rfl⟩
      refine Tri.lt ?_
      by_cases h3 : chkF f = 91
      · have hd : ((chkF f : Int) == 91) = true := by simp; omega
        rw [hd]
        simp only [if_true]
        refine Tri.bnd (stop_spec (e := 120)) ?_
        rintro _ _ ⟨rfl, rfl⟩
        exact fin (e := Ev.none) (y := 120) rfl (evc_len _) (by simp [Ms.take, h1, h2, h3]) (by omega)
      · have hd : ((chkF f : Int) == 91) = false := by simp; omega
        rw [hd]
        simp only [Bool.false_eq_true, if_false]
        refine Tri.ldI (Cell.here (i := 1) rfl).tail.tail (Tri.lt ?_)
        by_cases h4 : f.op = 8
        · have hd : ((f.op : Int) == 8) = true := by simp; omega
          rw [hd]
          simp only [if_true]
          refine Tri.ldG f.t rfl (Cells.here (i := 0) (by simp [Fr.cells, frc]) rfl).tail.tail ?_
          refine Tri.bnd (end_spec hK hb) ?_
          rintro _ _ ⟨rfl, rfl⟩
          exact fin rfl (evc_len _) (by simp [Ms.take, h1, h2, h3, h4]) (Int.natCast_nonneg _)
        · have hd : ((f.op : Int) == 8) = false := by simp; omega
          rw [hd]
          simp only [Bool.false_eq_true, if_false]
          refine Tri.ldI (Cell.here (i := 1) rfl).tail.tail ?_
          rw [frame_Control_eq, ctlOp_int, bnd_ret]
          cases h5 : ctlOp f.op with
          | true =>
            simp only [if_true]
            refine Tri.ldI (Cell.here (i := 1) rfl).tail.tail (Tri.ldS (Cell.here (i := 7) rfl).tail.tail ?_)
            exact fin (e := ⟨f.op, 0, f.data⟩) rfl (evc_len _) (by simp [Ms.take, h1, h2, h3, h4, h5]) (by omega)
          | false =>
            simp only [Bool.false_eq_true, if_false]
            refine Tri.ldG f.t rfl (Cells.here (i := 0) (by simp [Fr.cells, frc]) rfl).tail.tail ?_
            refine Tri.bnd (data_spec hK hb) ?_
            rintro _ _ ⟨rfl, rfl⟩
            exact fin rfl (evc_len _) (by simp [Ms.take, h1, h2, h3, h4, h5]) (Int.natCast_nonneg _)
  · have hd : ((m.err : Int) != 0) = true := by simp; omega
    rw [hd]
    simp only [if_true]
    refine Tri.drw (Tri.nn ?_)
    have e5 : (⟨a, 0, none⟩ : Addr).add 5 = ⟨a, 5, none⟩ := rfl
    rw [e5]
    refine Tri.wld1 (v := .int .i64 m.err) (Cell.here (i := 5) rfl) fun w8 h8 => Tri.ldI (Cell.here (i := 5) rfl) ?_
    refine msgClose hok ?_
    have hm : m.take f = (m, Ev.none, false, m.err) := by simp only [Ms.take]; rw [if_pos h1]
    rw [hm]
    refine Tri.pick 1 rfl (stEv (e := Ev.none) rfl (evc_len _) ?_)
    refine Tri.pick 1 rfl (msgOpen fun hok p t hp => ?_)
    refine Tri.agr1 h8 (Cell.here (i := 5) rfl) ?_
    refine msgClose hok ?_
    refine Tri.pick 1 rfl (ldEv (Tri.drop ?_))
    exact Tri.pick 1 rfl (Tri.drop (Tri.ret ⟨rfl, rfl⟩))
theorem mpart_spec {a : Nat} {m : Ms} : Tri ρ (msgI a m :: L) (msg_Machine_Part K (some ⟨a, 0, none⟩)) (fun r L' => r = (m.part.length : Int) ∧ L' = msgI a m :: L) := by
  unfold msg_Machine_Part
  refine msgOpen fun hok p t hp => Tri.nn (Tri.ldSl p (Cell.here (i := 2) rfl) (Tri.lt ?_))
  exact msgClose hok (Tri.ret ⟨by rw [hp], rfl⟩)
theorem spart_spec {a : Nat} {s : St} : Tri ρ (streamI a s :: L) (stream_Stream_Part K (some ⟨a, 0, none⟩)) (fun r L' => r = (s.part.length : Int) ∧ L' = streamI a s :: L) := by
  unfold stream_Stream_Part
  refine streamOpen fun h1 h2 p hp hpc => Tri.nn (Tri.ldSl p (Cell.here (i := 2) rfl) (Tri.lt ?_))
  exact streamClose h1 h2 (Tri.ret ⟨by rw [hp], rfl⟩)
end Go.Proofs.YtjdnjlnfcbaokaaGreat

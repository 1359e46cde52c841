/-
  SPECS, 11: leg: what is done with one side (Close, pong, take, Feed, Send, Ping, Take, Peek, ..). Own work.
-/
import Derived.Test.YtjdnjlnfcbaokaaGreatSp10
import Derived.Test.YtjdnjlnfcbaokaaGreatPl0
set_option linter.unusedVariables false
set_option linter.unusedSimpArgs false
set_option maxRecDepth 20000
namespace Go.Proofs.YtjdnjlnfcbaokaaGreat
open Go Go.Lg
variable {α β σ τ : Type} {ρ : Hp} {L M : As} {K : Nat}

/-! ### 1. The model -/
def ctlF (op : Nat) (d : List UInt8) : Fr := ⟨true, op, false, Key.zero, d⟩
def Lm.addC (x : Lm) (f : Fr) : Lm := ({ x with ctl := x.ctl ++ [f] } : Lm).move
def Lm.free (x : Lm) : Bool := !x.sent && !x.got && x.wrong == 0 && x.rest.isEmpty
def Lm.send (x : Lm) (e : Ev) : Lm × Bool :=
  if x.free = true ∧ (e.op = 1 ∨ e.op = 2) ∧ e.data.length ≤ x.message then (({ x with rest := cutF e.op.toNat e.data x.frame } : Lm).move, true) else (x, false)
def Lm.ping (x : Lm) (d : List UInt8) : Lm × Bool :=
  if x.sent = true ∨ x.got = true ∨ x.wrong ≠ 0 ∨ 125 < d.length then (x, false) else (x.addC (ctlF 9 d), true)
def Lm.close (x : Lm) (c : Int) (w : List UInt8) : Lm × Bool :=
  if x.sent = true ∨ (closePut c w).2 ≠ 0 then (x, false) else (({ x with sent := true, rest := [] } : Lm).addC (ctlF 8 (closePut c w).1), true)
def setD (l : List Fr) (i : Nat) (d : List UInt8) : List Fr := l.modify i fun f => { f with data := d }
def Lm.pong (x : Lm) (d : List UInt8) : Lm :=
  if x.sent = true then x else match pongAt x.ctl with
    | some i => ({ x with ctl := setD x.ctl i d } : Lm).move
    | none => x.addC (ctlF 10 d)
def Lm.fail (x : Lm) (e : Nat) : Lm := (({ x with wrong := e } : Lm).close (codeOf e) []).1
def Lm.takeF (x : Lm) (f : Fr) : Lm × Option Ev :=
  let r := x.m.take f
  let y : Lm := { x with m := r.1 }
  if r.2.2.2 ≠ 0 then (y.fail r.2.2.2, none)
  else if r.2.2.1 = true ∧ r.2.1.op = 9 then (y.pong r.2.1.data, none)
  else if r.2.2.1 = true ∧ r.2.1.op = 8 then ((({ y with got := true } : Lm).close (acrossOf r.2.1.code) []).1, some r.2.1)
  else (y, if r.2.2.1 = true then some r.2.1 else none)
def Lm.feedL : Lm → List Fr → Lm × List Ev × Bool
  | x, [] => (x, [], false)
  | x, f :: fs =>
    if (x.takeF f).1.got = true ∨ (x.takeF f).1.wrong ≠ 0 then ((x.takeF f).1, (x.takeF f).2.toList, true)
    else (((x.takeF f).1.feedL fs).1, (x.takeF f).2.toList ++ ((x.takeF f).1.feedL fs).2.1, ((x.takeF f).1.feedL fs).2.2)
def Lm.feed (x : Lm) (b : List UInt8) : Lm × List Ev :=
  if x.got = true ∨ x.wrong ≠ 0 then (x, []) else
  let s := x.inn.feed b
  let q := ({ x with inn := s.2 } : Lm).feedL s.1
  (if q.2.2 = true ∨ s.2.err = 0 then q.1 else q.1.fail s.2.err, q.2.1)
def Lm.peek (x : Lm) (n : Int) : List UInt8 := x.ring.take n.toNat
def Lm.out' (x : Lm) (n : Int) : Lm := ({ x with ring := x.ring.drop n.toNat } : Lm).move
def Lm.quiet (x : Lm) : Bool := x.ring.isEmpty && x.tail.isEmpty && x.ctl.isEmpty && x.rest.isEmpty
def Lm.kept (x : Lm) : Nat := x.inn.part.length + x.m.part.length

/-! ### 2. What stays within bounds -/
def cnt (op : Nat) (l : List Fr) : Nat := l.countP fun f => f.op == op
structure Lm.Fit (x : Lm) : Prop where
  part : x.inn.part.length ≤ x.inn.most + 14
  rest : x.rest.length ≤ 131072
  pong : cnt 10 x.ctl ≤ 1
  end_ : cnt 8 x.ctl ≤ if x.sent = true then 1 else 0
  ping : cnt 9 x.ctl ≤ 549755813888
  ops : ∀ f ∈ x.ctl, f.op = 8 ∨ f.op = 9 ∨ f.op = 10
  mop : x.m.op ≤ 2
theorem cnt_append (op : Nat) (l m : List Fr) : cnt op (l ++ m) = cnt op l + cnt op m := by simp [cnt]
theorem cnt_one (op : Nat) (f : Fr) : cnt op [f] = if f.op = op then 1 else 0 := by
  simp only [cnt, List.countP_cons, List.countP_nil, beq_iff_eq]; split <;> rfl
theorem cnt_cons (op : Nat) (f : Fr) (l : List Fr) : cnt op (f :: l) = (if f.op = op then 1 else 0) + cnt op l := by
  rw [show f :: l = [f] ++ l from rfl, cnt_append, cnt_one]
theorem cnt_drop (op : Nat) (l : List Fr) (k : Nat) : cnt op (l.drop k) ≤ cnt op l := by
  have : cnt op l = cnt op (l.take k) + cnt op (l.drop k) := by rw [← cnt_append, List.take_append_drop]
  omega
theorem ops_len : ∀ {l : List Fr}, (∀ f ∈ l, f.op = 8 ∨ f.op = 9 ∨ f.op = 10) → l.length = cnt 8 l + cnt 9 l + cnt 10 l
  | [], _ => rfl
  | f :: l, h => by
    have h1 := h f (by simp)
    have h2 := ops_len (l := l) fun g hg => h g (List.mem_cons_of_mem _ hg)
    rw [cnt_cons, cnt_cons, cnt_cons, List.length_cons, h2]
    rcases h1 with h | h | h <;> rw [h] <;> simp <;> omega
theorem Lm.Fit.len {x : Lm} (h : x.Fit) : x.ctl.length ≤ 549755813890 := by
  have h1 := ops_len h.ops
  have h2 := h.pong
  have h3 := h.end_
  have h4 := h.ping
  have h5 : (if x.sent = true then 1 else 0) ≤ 1 := by split <;> omega
  omega
/-- what moved on -/
theorem next_drop {x y : Lm} {f : Fr} (hn : x.next = some (f, y)) : (∃ k, y.ctl = x.ctl.drop k) ∧ (∃ k, y.rest = x.rest.drop k) := by
  rcases next_cases x with ⟨h1, h2, h3⟩ | ⟨g, r, h1, h3⟩ | ⟨g, r, h1, h2, h3⟩
  · rw [h3] at hn; simp at hn
  · rw [h3] at hn
    simp only [Option.some.injEq] at hn
    have := dress_ctl { x with ctl := r } g
    rw [hn] at this
    exact ⟨⟨1, by rw [this.1, h1]; rfl⟩, ⟨0, this.2⟩⟩
  · rw [h3] at hn
    simp only [Option.some.injEq] at hn
    have := dress_ctl { x with rest := r } g
    rw [hn] at this
    exact ⟨⟨0, this.1⟩, ⟨1, by rw [this.2, h2]; rfl⟩⟩
theorem moveF_drop : ∀ {k : Nat} {x : Lm}, (∃ i, (Lm.moveF k x).ctl = x.ctl.drop i) ∧ (∃ i, (Lm.moveF k x).rest = x.rest.drop i)
  | 0, x => ⟨⟨0, rfl⟩, ⟨0, rfl⟩⟩
  | k + 1, x => by
    unfold Lm.moveF
    split
    · cases hn : x.push.next with
      | none => exact ⟨⟨0, rfl⟩, ⟨0, rfl⟩⟩
      | some q =>
        obtain ⟨f, y⟩ := q
        obtain ⟨⟨i1, h1⟩, ⟨i2, h2⟩⟩ := next_drop hn
        obtain ⟨⟨j1, g1⟩, ⟨j2, g2⟩⟩ := moveF_drop (k := k) (x := { y with tail := frPut f })
        refine ⟨⟨i1 + j1, ?_⟩, ⟨i2 + j2, ?_⟩⟩
        · show (Lm.moveF k { y with tail := frPut f }).ctl = _
          rw [g1]; show y.ctl.drop j1 = _
          rw [h1, List.drop_drop]; rfl
        · show (Lm.moveF k { y with tail := frPut f }).rest = _
          rw [g2]; show y.rest.drop j2 = _
          rw [h2, List.drop_drop]; rfl
    · exact ⟨⟨0, rfl⟩, ⟨0, rfl⟩⟩
theorem Lm.Fit.move {x : Lm} (hok : x.Ok) (h : x.Fit) : x.move.Fit := by
  obtain ⟨⟨i, h1⟩, ⟨j, h2⟩⟩ := moveF_drop (k := x.ctl.length + x.rest.length + 1) (x := x)
  have al := (move_ok hok).2
  change x.move.ctl = _ at h1
  change x.move.rest = _ at h2
  refine ⟨by rw [al.inn]; exact h.part, ?_, ?_, ?_, ?_, ?_, by rw [al.m]; exact h.mop⟩
  · rw [h2]; have := h.rest; simp; omega
  · rw [h1]; exact Nat.le_trans (cnt_drop _ _ _) h.pong
  · rw [h1, al.sent]; exact Nat.le_trans (cnt_drop _ _ _) h.end_
  · rw [h1]; exact Nat.le_trans (cnt_drop _ _ _) h.ping
  · intro f hf; rw [h1] at hf; exact h.ops f (List.mem_of_mem_drop hf)
theorem cnt_move (op : Nat) (x : Lm) : cnt op x.move.ctl ≤ cnt op x.ctl := by
  obtain ⟨⟨i, h1⟩, _⟩ := moveF_drop (k := x.ctl.length + x.rest.length + 1) (x := x)
  change x.move.ctl = _ at h1
  rw [h1]; exact cnt_drop _ _ _
theorem ctlF_ok {op : Nat} {d : List UInt8} (ho : op = 8 ∨ op = 9 ∨ op = 10) (hd : d.length ≤ 125) : okF (ctlF op d) := by
  refine ⟨?_, by simp [ctlF]; omega, rfl⟩
  rcases ho with rfl | rfl | rfl <;> simp [formF, ctlF, knownOp, ctlOp, hd]
theorem okF_data {f : Fr} {d : List UInt8} (h : okF f) (hd : d.length ≤ 125) : okF { f with data := d } := by
  obtain ⟨h1, h2, h3⟩ := h
  refine ⟨?_, by simp; omega, h3⟩
  simp only [formF, Bool.and_eq_true, Bool.or_eq_true] at h1 ⊢
  refine ⟨⟨h1.1.1, ?_⟩, h1.2⟩
  rcases h1.1.2 with h | h
  · exact .inl h
  · refine .inr ⟨h.1, by simpa using hd⟩
theorem setD_mem : ∀ {l : List Fr} {i : Nat} {d : List UInt8} {f : Fr}, f ∈ setD l i d → f ∈ l ∨ ∃ g ∈ l, f = { g with data := d }
  | [], i, d, f, h => by simp [setD] at h
  | g :: l, 0, d, f, h => by
    simp only [setD, List.modify_zero_cons, List.mem_cons] at h
    rcases h with h | h
    · exact .inr ⟨g, by simp, h⟩
    · exact .inl (List.mem_cons_of_mem _ h)
  | g :: l, i + 1, d, f, h => by
    simp only [setD, List.modify_succ_cons, List.mem_cons] at h
    rcases h with h | h
    · exact .inl (by simp [h])
    · rcases setD_mem (l := l) (i := i) (d := d) h with h | ⟨q, hq, e⟩
      · exact .inl (List.mem_cons_of_mem _ h)
      · exact .inr ⟨q, List.mem_cons_of_mem _ hq, e⟩
theorem setD_cnt (op : Nat) : ∀ (l : List Fr) (i : Nat) (d : List UInt8), cnt op (setD l i d) = cnt op l
  | [], i, d => by simp [setD]
  | g :: l, 0, d => by
    simp only [setD, List.modify_zero_cons]
    rw [cnt_cons, cnt_cons]
  | g :: l, i + 1, d => by
    have := setD_cnt op l i d
    simp only [setD, List.modify_succ_cons] at this ⊢
    rw [cnt_cons, cnt_cons, this]
theorem setD_length (l : List Fr) (i : Nat) (d : List UInt8) : (setD l i d).length = l.length := by simp [setD]
theorem pongAt_none : ∀ {l : List Fr}, pongAt l = none → cnt 10 l = 0
  | [], _ => rfl
  | f :: l, h => by
    unfold pongAt at h
    split at h
    · simp at h
    · rename_i h1
      rw [cnt_cons, if_neg h1, pongAt_none (l := l) (by simpa using h)]
theorem pongAt_some : ∀ {l : List Fr} {i : Nat}, pongAt l = some i → i < l.length
  | [], i, h => by simp [pongAt] at h
  | f :: l, i, h => by
    unfold pongAt at h
    split at h
    · simp at h; subst h; simp
    · simp only [Option.map_eq_some_iff] at h
      obtain ⟨j, hj, rfl⟩ := h
      have := pongAt_some hj
      simp; omega
/-- a control frame more -/
theorem addC_ok {x : Lm} (hok : x.Ok) (h : x.Fit) {f : Fr} (hf : okF f) (ho : f.op = 8 ∨ f.op = 9 ∨ f.op = 10) (h10 : f.op = 10 → cnt 10 x.ctl = 0) (h8 : f.op = 8 → cnt 8 x.ctl = 0 ∧ x.sent = true) (h9 : f.op = 9 → cnt 9 x.ctl < 549755813888) :
    ({ x with ctl := x.ctl ++ [f] } : Lm).Ok ∧ ({ x with ctl := x.ctl ++ [f] } : Lm).Fit := by
  refine ⟨⟨hok.message, hok.frame, hok.most, hok.mm, hok.draw, ?_, hok.rest, hok.tail⟩, ⟨h.part, h.rest, ?_, ?_, ?_, ?_, h.mop⟩⟩
  · intro g hg
    simp only [List.mem_append, List.mem_singleton] at hg
    rcases hg with hg | rfl
    · exact hok.ctl g hg
    · exact hf
  · show cnt 10 (x.ctl ++ [f]) ≤ 1
    rw [cnt_append, cnt_one]; have := h.pong
    by_cases e : f.op = 10
    · rw [if_pos e, h10 e]; omega
    · rw [if_neg e]; omega
  · show cnt 8 (x.ctl ++ [f]) ≤ if x.sent = true then 1 else 0
    rw [cnt_append, cnt_one]; have := h.end_
    by_cases e : f.op = 8
    · obtain ⟨e1, e2⟩ := h8 e
      rw [if_pos e, e1, if_pos e2]; omega
    · rw [if_neg e]; omega
  · show cnt 9 (x.ctl ++ [f]) ≤ 549755813888
    rw [cnt_append, cnt_one]; have := h.ping
    by_cases e : f.op = 9
    · have := h9 e
      rw [if_pos e]; omega
    · rw [if_neg e]; omega
  · intro g hg
    simp only [List.mem_append, List.mem_singleton] at hg
    rcases hg with hg | rfl
    · exact h.ops g hg
    · exact ho
theorem closePut_len (c : Int) (w : List UInt8) : (closePut c w).1.length ≤ 125 := by
  unfold closePut
  split
  · simp
  · split
    · simp
    · split
      · simp
      · rename_i h _
        have : ¬ 123 < w.length := fun h1 => h (.inr h1)
        simp; omega

/-! ### 3. Specs -/
theorem moveC {a : Nat} {c : Tapi_Config} {y : Lm} {si mi ri : Nat} {tl ct rs : Sl} {f : Unit → G β} {C : β → As → Prop} (hK : KBig K) (hok : y.Ok) (hfit : y.Fit) (hcfg : cfgOk c y) (htl : tl.n = y.tail.length) (hct : ct.n = y.ctl.length) (hrs : rs.n = y.rest.length)
    (h : Tri ρ (legI a c y.move :: L) (f ()) C) :
    Tri ρ (pts a (legC c y si mi ri tl ct rs) :: ringI ri y.out y.ring :: row tl 1 (bl y.tail) :: row ct 8 (frl y.ctl) :: row rs 8 (frl y.rest) :: streamI si y.inn :: msgI mi y.m :: L) (bnd (leg_Leg_move K (some ⟨a, 0, none⟩)) f) C := by
  have h1 := hfit.len
  have h2 := hfit.rest
  refine Tri.bnd (move_spec hK hok htl hct hrs (by omega)) ?_
  rintro ⟨⟩ _ ⟨tl', ct', rs', h3, h4, h5, rfl⟩
  obtain ⟨m1, m2⟩ := move_ok hok
  rw [← m2.inn, ← m2.m]
  exact legClose m1 ⟨by rw [m2.message]; exact hcfg.1, by rw [m2.frame]; exact hcfg.2.1, by rw [m2.out]; exact hcfg.2.2⟩ h3 h4 h5 h
theorem frt_ctl (op : Nat) (d : List UInt8) : Tapi_Frame.mk true (op : Int) false (0 : Int) (0 : Int) (0 : Int) (0 : Int) (ba d) = (ctlF op d).t := rfl
/-- a control frame put behind the others -/
theorem addC_spec {a e : Nat} {c : Tapi_Config} {x : Lm} {si mi ri : Nat} {tl ct rs : Sl} {fr : Fr} {f : Unit → G β} {C : β → As → Prop} {t : Tapi_Frame} (ht : t = fr.t) (hK : KBig K) (hok : x.Ok) (h : x.Fit) (hcfg : cfgOk c x)
    (hok' : ({ x with ctl := x.ctl ++ [fr] } : Lm).Ok) (hfit' : ({ x with ctl := x.ctl ++ [fr] } : Lm).Fit) (htl : tl.n = x.tail.length) (hct : ct.n = x.ctl.length) (hrs : rs.n = x.rest.length)
    (hh : Tri ρ (legI a c (x.addC fr) :: L) (f ()) C) :
    Tri ρ (pts a (legC c x si mi ri tl ct rs) :: ringI ri x.out x.ring :: row tl 1 (bl x.tail) :: row ct 8 (frl x.ctl) :: row rs 8 (frl x.rest) :: streamI si x.inn :: msgI mi x.m :: L)
      (new (Agg.cells t) e fun x9 =>
        appS e 8 40 [.bool false, .int .i64 (0 : Int), .bool false, .int .u8 (0 : Int), .int .u8 (0 : Int), .int .u8 (0 : Int), .int .u8 (0 : Int), .string (ByteArray.mk #[])] ct (Sl.mk (some x9) 1 1) fun x10 =>
        nn (some (⟨a, 0, none⟩ : Addr)) fun x11 => st (x11.add 16) (.slice x10.a x10.n x10.c) <| bnd (leg_Leg_move K (some ⟨a, 0, none⟩)) f) C := by
  subst ht
  have hl := h.len
  refine Tri.new fun b => ?_
  refine Tri.pick 4 rfl ?_
  refine Tri.appS (new := frc fr) (Rd.pts (o := 0) rfl (by simp [Fr.cells]) rfl) rfl rfl (by simp; omega) fun ct' hct' => ?_
  rw [← frl_snoc]
  refine Tri.nn ?_
  refine Tri.pick 2 rfl ?_
  refine Tri.stB (i := 16) (l := [.slice ct'.a ct'.n ct'.c]) (by rfl) (by simp [legC]) rfl ?_
  have e2 : splice (legC c x si mi ri tl ct rs) 16 [.slice ct'.a ct'.n ct'.c] = legC c { x with ctl := x.ctl ++ [fr] } si mi ri tl ct' rs := rfl
  rw [e2]
  refine Tri.order [2] rfl (Tri.drop (Tri.order [0, 1, 1] rfl ?_))
  exact moveC (y := { x with ctl := x.ctl ++ [fr] }) hK hok' hfit' hcfg htl (by rw [hct', hct]; simp) hrs hh
theorem close_ok {x : Lm} (hok : x.Ok) (h : x.Fit) (c : Int) (w : List UInt8) : (x.close c w).1.Ok ∧ (x.close c w).1.Fit := by
  unfold Lm.close
  split
  · exact ⟨hok, h⟩
  · rename_i hn
    have hs : x.sent = false := by
      cases hs : x.sent with
      | false => rfl
      | true => exact absurd (.inl hs) hn
    have h8 : cnt 8 x.ctl = 0 := by have := h.end_; rw [hs] at this; simpa using this
    have hok1 : ({ x with sent := true, rest := [] } : Lm).Ok := ⟨hok.message, hok.frame, hok.most, hok.mm, hok.draw, hok.ctl, by intro f hf; simp at hf, hok.tail⟩
    have hfit1 : ({ x with sent := true, rest := [] } : Lm).Fit := ⟨h.part, by simp, h.pong, by show cnt 8 x.ctl ≤ _; rw [h8]; simp, h.ping, h.ops, h.mop⟩
    obtain ⟨q1, q2⟩ := addC_ok hok1 hfit1 (ctlF_ok (op := 8) (.inl rfl) (closePut_len c w)) (.inl rfl) (by simp [ctlF]) (fun _ => ⟨h8, rfl⟩) (by simp [ctlF])
    exact ⟨(move_ok q1).1, q2.move q1⟩
theorem legCloseS {a : Nat} {c : Tapi_Config} {x : Lm} {co : Int} {w : List UInt8} (hK : KBig K) (h : x.Fit) (hw : w.length ≤ 1099511627776) :
    Tri ρ (legI a c x :: L) (leg_Leg_Close K (some ⟨a, 0, none⟩) co (ba w)) (fun r L' => r = (x.close co w).2 ∧ L' = legI a c (x.close co w).1 :: L) := by
  unfold leg_Leg_Close
  refine Tri.bnd (close_Put_spec hK hw) ?_
  rintro _ _ ⟨rfl, rfl⟩
  refine legOpen fun hok hcfg si mi ri tl ct rs htl hct hrs => ?_
  refine Tri.nn (Tri.ldB (Cell.here (i := 20) rfl) ?_)
  have e1 : (if x.sent = true then ret true else ret (((closePut co w).2 : Int) != 0) : G Bool) = ret (decide (x.sent = true ∨ (closePut co w).2 ≠ 0)) := by
    have : (((closePut co w).2 : Int) != 0) = decide ((closePut co w).2 ≠ 0) := by
      rw [Bool.eq_iff_iff]; simp only [bne_iff_ne, decide_eq_true_eq]; omega
    rw [this]
    cases x.sent <;> simp
  rw [e1, bnd_ret]
  by_cases hn : x.sent = true ∨ (closePut co w).2 ≠ 0
  · rw [decide_eq_true hn]
    simp only [if_true]
    have hc : x.close co w = (x, false) := by unfold Lm.close; rw [if_pos hn]
    rw [hc]
    exact legClose hok hcfg htl hct hrs (Tri.ret ⟨rfl, rfl⟩)
  · rw [decide_eq_false hn]
    simp only [Bool.false_eq_true, if_false]
    have hs : x.sent = false := by
      cases hs : x.sent with
      | false => rfl
      | true => exact absurd (.inl hs) hn
    have h8 : cnt 8 x.ctl = 0 := by have := h.end_; rw [hs] at this; simpa using this
    have hc : x.close co w = (({ x with sent := true, rest := [] } : Lm).addC (ctlF 8 (closePut co w).1), true) := by unfold Lm.close; rw [if_neg hn]
    rw [hc]
    refine Tri.nn (Tri.stB (i := 20) (l := [.bool true]) (by rfl) (by simp [legC]) rfl (Tri.nn ?_))
    refine Tri.stB (i := 17) (l := [.slice Sl.nil.a Sl.nil.n Sl.nil.c]) (by rfl) (by simp [legC, splice]) rfl (Tri.nn ?_)
    have e2 : splice (splice (legC c x si mi ri tl ct rs) 20 [.bool true]) 17 [.slice Sl.nil.a Sl.nil.n Sl.nil.c] = legC c { x with sent := true, rest := [] } si mi ri tl ct Sl.nil := rfl
    rw [e2]
    refine Tri.ldSl ct (Cell.here (i := 16) rfl) ?_
    refine Tri.order [4] rfl (Tri.drop (Tri.nilRow (sz := 8) (Tri.order [1, 1, 1, 1] rfl ?_)))
    have hok1 : ({ x with sent := true, rest := [] } : Lm).Ok := ⟨hok.message, hok.frame, hok.most, hok.mm, hok.draw, hok.ctl, by intro f hf; simp at hf, hok.tail⟩
    have hfit1 : ({ x with sent := true, rest := [] } : Lm).Fit := ⟨h.part, by simp, h.pong, by show cnt 8 x.ctl ≤ _; rw [h8]; simp, h.ping, h.ops, h.mop⟩
    obtain ⟨q1, q2⟩ := addC_ok hok1 hfit1 (ctlF_ok (op := 8) (.inl rfl) (closePut_len co w)) (.inl rfl) (by simp [ctlF]) (fun _ => ⟨h8, rfl⟩) (by simp [ctlF])
    exact addC_spec (x := { x with sent := true, rest := [] }) (fr := ctlF 8 (closePut co w).1) rfl hK hok1 hfit1 hcfg q1 q2 htl hct rfl (Tri.ret ⟨rfl, rfl⟩)
theorem fail_ok {x : Lm} (hok : x.Ok) (h : x.Fit) (e : Nat) : (x.fail e).Ok ∧ (x.fail e).Fit :=
  close_ok (x := { x with wrong := e }) ⟨hok.message, hok.frame, hok.most, hok.mm, hok.draw, hok.ctl, hok.rest, hok.tail⟩ ⟨h.part, h.rest, h.pong, h.end_, h.ping, h.ops, h.mop⟩ _ _
theorem legFailS {a : Nat} {c : Tapi_Config} {x : Lm} {e : Nat} (hK : KBig K) (h : x.Fit) :
    Tri ρ (legI a c x :: L) (leg_Leg_fail K (some ⟨a, 0, none⟩) e) (fun _ L' => L' = legI a c (x.fail e) :: L) := by
  unfold leg_Leg_fail
  refine legOpen fun hok hcfg si mi ri tl ct rs htl hct hrs => ?_
  refine Tri.nn (Tri.stB (i := 22) (l := [.int .i64 (e : Int)]) (by rfl) (by simp [legC]) rfl ?_)
  have e2 : splice (legC c x si mi ri tl ct rs) 22 [.int .i64 (e : Int)] = legC c { x with wrong := e } si mi ri tl ct rs := rfl
  rw [e2]
  refine legClose (x := { x with wrong := e }) ⟨hok.message, hok.frame, hok.most, hok.mm, hok.draw, hok.ctl, hok.rest, hok.tail⟩ hcfg htl hct hrs ?_
  refine Tri.bnd (code_spec hK) ?_
  rintro _ _ ⟨rfl, rfl⟩
  rw [ba_nil]
  refine Tri.bnd (legCloseS (w := []) hK ⟨h.part, h.rest, h.pong, h.end_, h.ping, h.ops, h.mop⟩ (by simp)) ?_
  rintro _ _ ⟨rfl, rfl⟩
  exact Tri.ret rfl
end Go.Proofs.YtjdnjlnfcbaokaaGreat

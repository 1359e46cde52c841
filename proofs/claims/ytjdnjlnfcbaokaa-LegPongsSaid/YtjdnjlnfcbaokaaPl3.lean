/-
  PLAIN LAWS, 3: pings that come, and the pongs that go out. Own work.
-/
import Derived.Test.YtjdnjlnfcbaokaaPl1
set_option linter.unusedVariables false
set_option linter.unusedSimpArgs false
set_option maxRecDepth 20000
namespace Go.Proofs.Ytjdnjlnfcbaokaa
open Go Go.Lg

theorem und_data (f : Fr) : (und f).data = f.data := rfl
theorem und_op (f : Fr) : (und f).op = f.op := rfl
theorem map_und_data (gs : List Fr) : (gs.map und).map Fr.data = gs.map Fr.data := by simp [und]
theorem parse_nil (masked : Bool) (most : Nat) : parse masked most [] = ([], [], 0) := by
  rw [parse_eq]; simp [lookM, frGet]
/-- a ping, as it comes -/
def pingF (d : List UInt8) : Fr := ⟨true, 9, true, Key.zero, d⟩
theorem pingF_ok {d : List UInt8} (h : d.length ≤ 125) : formF (pingF d) = true := by simp [formF, pingF, knownOp, ctlOp, h]
theorem pingF_put {d : List UInt8} (h : d.length ≤ 125) : frPut (pingF d) = 137 :: UInt8.ofNat (128 + d.length) :: 0 :: 0 :: 0 :: 0 :: d := by
  have e1 : lenB d.length = [UInt8.ofNat d.length] := by unfold lenB; rw [if_pos (by omega)]
  have e2 : (UInt8.ofNat d.length).toNat = d.length := by rw [UInt8.toNat_ofNat']; omega
  unfold frPut
  have e3 : (pingF d).masked = true := rfl
  rw [if_pos e3]
  show hd0 (pingF d) :: (addHi (lenB d.length) ++ Key.zero.l ++ turn Key.zero 0 d) = _
  rw [e1, turn_zero]
  simp only [addHi, e2]
  rw [Nat.add_comm d.length 128]
  rfl
structure PongI (l : List (List UInt8)) (s : List UInt8) (gs : List Fr) (x : Lm) : Prop where
  ok : x.Ok
  fit : x.Fit
  still : Still x
  inn : x.inn = ⟨true, 201, [], 0⟩
  err : x.m.err = 0
  over : x.m.over = false
  sent : x.sent = false
  got : x.got = false
  wrong : x.wrong = 0
  masks : x.masks = false
  rest : x.rest = []
  out : x.out = 201
  tail : x.tail.length ≤ 133
  bytes : s ++ x.ring ++ x.tail = putAll gs
  outs : ∀ g ∈ gs, OutF false g ∧ g.op = 10 ∧ g.data.length ≤ 125
  ctl : ∀ f ∈ x.ctl, f.op = 10 ∧ f.data.length ≤ 125
  sub : ((gs ++ x.ctl).map Fr.data).Sublist l
  last : ((gs ++ x.ctl).map Fr.data).getLast? = l.getLast?
theorem pong_len1 {l : List (List UInt8)} {s : List UInt8} {gs : List Fr} {x : Lm} (h : PongI l s gs x) : x.ctl.length ≤ 1 := by
  have h1 := h.fit.pong
  have : ∀ (c : List Fr), (∀ f ∈ c, f.op = 10) → cnt 10 c = c.length := by
    intro c
    induction c with
    | nil => intro _; rfl
    | cons f c ih => intro hc; rw [cnt_cons, if_pos (hc f (by simp)), ih fun g hg => hc g (List.mem_cons_of_mem _ hg)]; simp; omega
  rw [this x.ctl fun f hf => (h.ctl f hf).1] at h1
  exact h1
/-- what moves on keeps it -/
theorem pong_moved {l : List (List UInt8)} {s : List UInt8} {gs : List Fr} {y : Lm} (hok : y.Ok) (hfit : y.Fit) (hr : y.ring.length ≤ y.out) (inn : y.inn = ⟨true, 201, [], 0⟩) (err : y.m.err = 0) (over : y.m.over = false)
    (sent : y.sent = false) (got : y.got = false) (wrong : y.wrong = 0) (masks : y.masks = false) (rest : y.rest = []) (out : y.out = 201) (tail : y.tail.length ≤ 133) (bytes : s ++ y.ring ++ y.tail = putAll gs)
    (outs : ∀ g ∈ gs, OutF false g ∧ g.op = 10 ∧ g.data.length ≤ 125) (ctl : ∀ f ∈ y.ctl, f.op = 10 ∧ f.data.length ≤ 125) (sub : ((gs ++ y.ctl).map Fr.data).Sublist l) (last : ((gs ++ y.ctl).map Fr.data).getLast? = l.getLast?) :
    ∃ hs, PongI l s (gs ++ hs) y.move := by
  obtain ⟨hs, m1, m2, m3⟩ := move_moved hok
  have al := alike_move y
  rw [rest, List.append_nil] at m2
  have hrest : y.move.rest = [] := by
    obtain ⟨_, ⟨i, e⟩⟩ := moveF_drop (k := y.ctl.length + y.rest.length + 1) (x := y)
    have e2 : y.move.rest = y.rest.drop i := e
    rw [e2, rest]; simp
  rw [hrest, List.append_nil] at m2
  have hdata : ((gs ++ hs) ++ y.move.ctl).map Fr.data = (gs ++ y.ctl).map Fr.data := by
    have := congrArg (List.map Fr.data) m2
    rw [List.map_append, map_und_data] at this
    rw [List.append_assoc, List.map_append, List.map_append, this, List.map_append]
  have hhs : ∀ g ∈ hs, und g ∈ y.ctl := fun g hg => by rw [← m2]; exact List.mem_append_left _ (List.mem_map_of_mem hg)
  refine ⟨hs, (move_ok hok).1, hfit.move hok, move_still hr, al.inn.trans inn, by rw [al.m]; exact err, by rw [al.m]; exact over, al.sent.trans sent, al.got.trans got, al.wrong.trans wrong, al.masks.trans masks, hrest, al.out.trans out, ?_, ?_, ?_, ?_, by rw [hdata]; exact sub, by rw [hdata]; exact last⟩
  · refine tail_move hok tail ?_
    intro f hf
    rw [rest, List.append_nil] at hf
    have h1 := (ctl f hf).2
    have h2 := frLen_le y.masks f (by omega)
    omega
  · rw [List.append_assoc, m1, ← List.append_assoc, ← List.append_assoc, bytes]; simp [putAll]
  · intro g hg
    simp only [List.mem_append] at hg
    rcases hg with hg | hg
    · exact outs g hg
    · have h1 := m3 g hg
      have h2 := ctl _ (hhs g hg)
      rw [und_op, und_data] at h2
      exact ⟨masks ▸ h1, h2⟩
  · intro f hf; exact ctl f (ctl_move hf)
theorem ping_feed {l : List (List UInt8)} {s : List UInt8} {gs : List Fr} {x : Lm} (h : PongI l s gs x) {d : List UInt8} (hd : d.length ≤ 125) : x.feed (frPut (pingF d)) = (x.pong d, []) := by
  have hp : parse true 201 (frPut (pingF d)) = ([pingF d], [], 0) := by
    have h1 := parse_put (masked := true) (most := 201) (by omega) [pingF d] [] (by intro f hf; simp at hf; subst hf; exact ⟨pingF_ok hd, by show d.length ≤ 201; omega, rfl⟩)
    rw [parse_nil] at h1
    simpa [putAll] using h1
  have hf : x.inn.feed (frPut (pingF d)) = ([pingF d], x.inn) := by
    rw [feed_parse, h.inn]
    simp only [ne_eq, not_true, if_false, List.nil_append, hp]
  have ht : x.m.take (pingF d) = (x.m, ⟨9, 0, d⟩, true, 0) := by
    unfold Ms.take
    rw [if_neg (by rw [h.err]; simp), if_neg (by rw [h.over]; simp)]
    have hc : chkF (pingF d) ≠ 91 := by unfold chkF; rw [pingF_ok hd]; simp; split <;> omega
    rw [if_neg hc, if_neg (by simp [pingF]), if_pos (show ctlOp (pingF d).op = true from rfl)]
    rfl
  have hk : x.takeF (pingF d) = (x.pong d, none) := by
    unfold Lm.takeF
    rw [ht]
    simp
  have hg : (x.pong d).got = false ∧ (x.pong d).wrong = 0 := by
    unfold Lm.pong
    rw [if_neg (by rw [h.sent]; simp)]
    cases pongAt x.ctl with
    | some i => have al := alike_move { x with ctl := setD x.ctl i d }; exact ⟨al.got.trans h.got, al.wrong.trans h.wrong⟩
    | none => have al := alike_move { x with ctl := x.ctl ++ [ctlF 10 d] }; exact ⟨al.got.trans h.got, al.wrong.trans h.wrong⟩
  have hL : x.feedL [pingF d] = (x.pong d, [], false) := by
    rw [feedL_cons, hk]
    dsimp only
    rw [if_neg (by rw [hg.1, hg.2]; simp)]
    rfl
  have hx : ({ x with inn := x.inn } : Lm) = x := rfl
  unfold Lm.feed
  rw [if_neg (by rw [h.got, h.wrong]; simp), hf]
  dsimp only
  rw [hL, if_pos (.inr (by rw [h.inn]))]
theorem ping_step {l : List (List UInt8)} {s : List UInt8} {gs : List Fr} {x : Lm} (h : PongI l s gs x) {d : List UInt8} (hd : d.length ≤ 125) : ∃ hs, PongI (l ++ [d]) s (gs ++ hs) (x.pong d) := by
  have h1 := pong_len1 h
  unfold Lm.pong
  rw [if_neg (by rw [h.sent]; simp)]
  cases hc : x.ctl with
  | nil =>
    simp only [pongAt]
    obtain ⟨q1, q2⟩ := addC_ok h.ok h.fit (f := ctlF 10 d) (ctlF_ok (.inr (.inr rfl)) hd) (.inr (.inr rfl)) (fun _ => by rw [hc]; rfl) (by simp [ctlF]) (by simp [ctlF])
    refine pong_moved q1 q2 h.still.ring h.inn h.err h.over h.sent h.got h.wrong h.masks h.rest h.out h.tail h.bytes h.outs ?_ ?_ ?_
    · intro f hf
      have hf' : f ∈ x.ctl ++ [ctlF 10 d] := hf
      rw [hc] at hf'
      simp at hf'
      subst hf'; exact ⟨rfl, hd⟩
    · show ((gs ++ (x.ctl ++ [ctlF 10 d])).map Fr.data).Sublist _
      have := h.sub
      rw [← List.append_assoc, List.map_append]
      exact this.append (List.Sublist.refl _)
    · show ((gs ++ (x.ctl ++ [ctlF 10 d])).map Fr.data).getLast? = _
      rw [← List.append_assoc, List.map_append]
      simp [ctlF]
  | cons p r =>
    have hr : r = [] := by rw [hc] at h1; cases r with
                                       | nil => rfl
                                       | cons a r => simp at h1
    subst hr
    obtain ⟨p10, pd⟩ := h.ctl p (by rw [hc]; simp)
    simp only [pongAt, p10, if_true]
    rw [← hc]
    obtain ⟨q1, q2⟩ := pong_okE (i := 0) (d := d) h.ok h.fit hd
    have hset : setD x.ctl 0 d = [{ p with data := d }] := by rw [hc]; rfl
    refine pong_moved q1 q2 h.still.ring h.inn h.err h.over h.sent h.got h.wrong h.masks h.rest h.out h.tail h.bytes h.outs ?_ ?_ ?_
    · intro f hf
      have hf' : f ∈ setD x.ctl 0 d := hf
      rw [hset] at hf'
      simp at hf'
      subst hf'; exact ⟨p10, hd⟩
    · show ((gs ++ setD x.ctl 0 d).map Fr.data).Sublist _
      have h2 := h.sub
      rw [hc, List.map_append] at h2
      rw [hset, List.map_append]
      exact ((List.sublist_append_left _ _).trans h2).append (List.Sublist.refl [d])
    · show ((gs ++ setD x.ctl 0 d).map Fr.data).getLast? = _
      rw [hset, List.map_append]
      simp
theorem pong_out {l : List (List UInt8)} {s : List UInt8} {gs : List Fr} {x : Lm} (h : PongI l s gs x) (n : Int) : ∃ hs, PongI l (s ++ x.peek n) (gs ++ hs) (x.out' n) := by
  have q1 : ({ x with ring := x.ring.drop n.toNat } : Lm).Ok := ⟨h.ok.message, h.ok.frame, h.ok.most, h.ok.mm, h.ok.draw, h.ok.ctl, h.ok.rest, h.ok.tail⟩
  have q2 : ({ x with ring := x.ring.drop n.toNat } : Lm).Fit := ⟨h.fit.part, h.fit.rest, h.fit.pong, h.fit.end_, h.fit.ping, h.fit.ops, h.fit.mop⟩
  have hr := h.still.ring
  refine pong_moved q1 q2 (by show (x.ring.drop n.toNat).length ≤ x.out; simp; omega) h.inn h.err h.over h.sent h.got h.wrong h.masks h.rest h.out h.tail ?_ h.outs h.ctl h.sub h.last
  show s ++ x.peek n ++ x.ring.drop n.toNat ++ x.tail = putAll gs
  have := h.bytes
  unfold Lm.peek
  rw [List.append_assoc s, List.take_append_drop]; exact this
theorem pong_new : PongI [] [] [] (Lm.new (1 + 200) (1 + 50) (1 + 200) true 0) := by
  obtain ⟨h1, h2⟩ := new_ok (message := 1 + 200) (frame := 1 + 50) (out := 1 + 200) (draw := 0) (masked := true) (by omega) (by omega) (by omega)
  refine ⟨h1, h2, ⟨by simp [Lm.new], .inr ⟨rfl, rfl, rfl⟩⟩, rfl, rfl, rfl, rfl, rfl, rfl, rfl, rfl, rfl, by simp [Lm.new], rfl, by simp, ?_, ?_, ?_⟩
  · intro f hf; simp [Lm.new] at hf
  · exact List.Sublist.refl _
  · rfl
theorem pong_pend {l : List (List UInt8)} {s : List UInt8} {gs : List Fr} {x : Lm} (h : PongI l s gs x) : x.pend ≤ 1000 := by
  have h1 := pong_len1 h
  have h2 := h.still.ring
  have h3 := h.out
  have h4 := h.tail
  unfold Lm.pend
  rw [h.rest, List.append_nil]
  have : frSum x.masks x.ctl ≤ 133 := by
    cases hc : x.ctl with
    | nil => simp [frSum]
    | cons p r =>
      have hr : r = [] := by rw [hc] at h1; cases r with
                                         | nil => rfl
                                         | cons a r => simp at h1
      subst hr
      have h5 := (h.ctl p (by rw [hc]; simp)).2
      have h6 := frLen_le x.masks p (by omega)
      simp only [frSum]; omega
  omega
theorem pong_done {l : List (List UInt8)} {s : List UInt8} {gs : List Fr} {x : Lm} (h : PongI l s gs x) (hq : x.quiet = true) : s = putAll gs ∧ (gs.map Fr.data).Sublist l ∧ (gs.map Fr.data).getLast? = l.getLast? := by
  simp only [Lm.quiet, Bool.and_eq_true, List.isEmpty_iff] at hq
  obtain ⟨⟨⟨a1, a2⟩, a3⟩, a4⟩ := hq
  have h1 := h.bytes
  have h2 := h.sub
  have h3 := h.last
  rw [a1, a2, List.append_nil, List.append_nil] at h1
  rw [a3, List.append_nil] at h2 h3
  exact ⟨h1, h2, h3⟩
end Go.Proofs.Ytjdnjlnfcbaokaa

/-
  PLAIN LAWS, 2: what came, apart from what goes out: bytes in pieces come to the same. Own work.
-/
import Derived.Test.YtjdnjlnfcbaokaaSp17
set_option linter.unusedVariables false
set_option linter.unusedSimpArgs false
set_option maxRecDepth 20000
namespace Go.Proofs.Ytjdnjlnfcbaokaa
open Go Go.Lg

structure Cr where
  m : Ms
  sent : Bool
  got : Bool
  wrong : Nat
def Lm.cr (x : Lm) : Cr := ⟨x.m, x.sent, x.got, x.wrong⟩
def Cr.takeF (c : Cr) (f : Fr) : Cr × Option Ev :=
  let r := c.m.take f
  if r.2.2.2 ≠ 0 then ({ c with m := r.1, wrong := r.2.2.2, sent := true }, none)
  else if r.2.2.1 = true ∧ r.2.1.op = 9 then ({ c with m := r.1 }, none)
  else if r.2.2.1 = true ∧ r.2.1.op = 8 then ({ c with m := r.1, got := true, sent := true }, some r.2.1)
  else ({ c with m := r.1 }, if r.2.2.1 = true then some r.2.1 else none)
def Cr.feedL : Cr → List Fr → Cr × List Ev × Bool
  | c, [] => (c, [], false)
  | c, f :: fs =>
    if (c.takeF f).1.got = true ∨ (c.takeF f).1.wrong ≠ 0 then ((c.takeF f).1, (c.takeF f).2.toList, true)
    else (((c.takeF f).1.feedL fs).1, (c.takeF f).2.toList ++ ((c.takeF f).1.feedL fs).2.1, ((c.takeF f).1.feedL fs).2.2)
theorem crFeedL_cons (c : Cr) (f : Fr) (fs : List Fr) : c.feedL (f :: fs) = if (c.takeF f).1.got = true ∨ (c.takeF f).1.wrong ≠ 0 then ((c.takeF f).1, (c.takeF f).2.toList, true)
    else (((c.takeF f).1.feedL fs).1, (c.takeF f).2.toList ++ ((c.takeF f).1.feedL fs).2.1, ((c.takeF f).1.feedL fs).2.2) := rfl
def crFeed (s : St) (c : Cr) (b : List UInt8) : (St × Cr) × List Ev :=
  if c.got = true ∨ c.wrong ≠ 0 then ((s, c), []) else
  let q := c.feedL (s.feed b).1
  (((s.feed b).2, if q.2.2 = true ∨ (s.feed b).2.err = 0 then q.1 else { q.1 with wrong := (s.feed b).2.err, sent := true }), q.2.1)
/-! ### 1. It is what a side does -/
theorem validC_across (c : Int) : (closePut (acrossOf c) []).2 = 0 := by
  have key : ∀ d : Int, d = 0 ∨ validC d = true → (closePut d []).2 = 0 := by
    intro d hd
    unfold closePut
    by_cases h0 : d = 0
    · rw [if_pos ⟨h0, rfl⟩]
    · rw [if_neg (fun h => h0 h.1)]
      have hv : validC d = true := hd.resolve_left h0
      have hn : ¬ (validC d = false ∨ 123 < ([] : List UInt8).length) := by rw [hv]; simp
      have hu : utValid [] = true := by decide
      rw [if_neg hn, hu]; rfl
  apply key
  unfold acrossOf
  split
  · exact .inl rfl
  · split
    · rename_i h; exact .inr h
    · exact .inr (by decide)
theorem validC_code (e : Nat) : (closePut (codeOf e) []).2 = 0 := by
  have h : ∀ n : Nat, n = 1000 ∨ n = 1002 ∨ n = 1007 ∨ n = 1009 ∨ n = 1011 → (closePut (n : Int) []).2 = 0 := by
    rintro n (rfl | rfl | rfl | rfl | rfl) <;> decide +kernel
  apply h
  unfold codeOf
  split
  · exact .inl rfl
  · split
    · exact .inr (.inl rfl)
    · split
      · exact .inr (.inr (.inl rfl))
      · split
        · exact .inr (.inr (.inr (.inl rfl)))
        · exact .inr (.inr (.inr (.inr rfl)))
theorem alike_cr {x y : Lm} (h : Alike x y) : y.cr = x.cr := by
  unfold Lm.cr; rw [h.m, h.sent, h.got, h.wrong]
theorem close_cr (x : Lm) (c : Int) (h : (closePut c []).2 = 0) : (x.close c []).1.cr = { x.cr with sent := true } ∧ (x.close c []).1.inn = x.inn := by
  unfold Lm.close
  split
  · rename_i hc
    have hs : x.sent = true := hc.resolve_right fun h2 => h2 h
    refine ⟨?_, rfl⟩
    unfold Lm.cr; rw [hs]
  · have al := alike_move { x with sent := true, rest := [], ctl := x.ctl ++ [ctlF 8 (closePut c []).1] }
    exact ⟨alike_cr al, al.inn⟩
theorem pong_cr (x : Lm) (d : List UInt8) : (x.pong d).cr = x.cr ∧ (x.pong d).inn = x.inn := by
  unfold Lm.pong
  split
  · exact ⟨rfl, rfl⟩
  · cases pongAt x.ctl with
    | some i => have al := alike_move { x with ctl := setD x.ctl i d }; exact ⟨alike_cr (x := { x with ctl := setD x.ctl i d }) al, al.inn⟩
    | none => have al := alike_move { x with ctl := x.ctl ++ [ctlF 10 d] }; exact ⟨alike_cr (x := { x with ctl := x.ctl ++ [ctlF 10 d] }) al, al.inn⟩
theorem fail_cr (x : Lm) (e : Nat) : (x.fail e).cr = { x.cr with wrong := e, sent := true } ∧ (x.fail e).inn = x.inn := close_cr { x with wrong := e } _ (validC_code e)
theorem takeF_cr (x : Lm) (f : Fr) : (x.takeF f).1.cr = (x.cr.takeF f).1 ∧ (x.takeF f).2 = (x.cr.takeF f).2 ∧ (x.takeF f).1.inn = x.inn := by
  unfold Lm.takeF Cr.takeF
  have hm : x.cr.m = x.m := rfl
  rw [hm]
  generalize x.m.take f = r
  dsimp only
  split
  · obtain ⟨h1, h2⟩ := fail_cr { x with m := r.1 } r.2.2.2
    exact ⟨h1, rfl, h2⟩
  · split
    · obtain ⟨h1, h2⟩ := pong_cr { x with m := r.1 } r.2.1.data
      exact ⟨h1, rfl, h2⟩
    · split
      · obtain ⟨h1, h2⟩ := close_cr { x with m := r.1, got := true } (acrossOf r.2.1.code) (validC_across _)
        exact ⟨h1, rfl, h2⟩
      · exact ⟨rfl, rfl, rfl⟩
theorem feedL_cr : ∀ (fs : List Fr) (x : Lm), (x.feedL fs).1.cr = (x.cr.feedL fs).1 ∧ (x.feedL fs).2 = (x.cr.feedL fs).2 ∧ (x.feedL fs).1.inn = x.inn
  | [], x => ⟨rfl, rfl, rfl⟩
  | f :: fs, x => by
    obtain ⟨h1, h2, h3⟩ := takeF_cr x f
    obtain ⟨g1, g2, g3⟩ := feedL_cr fs (x.takeF f).1
    have hg : (x.takeF f).1.got = (x.cr.takeF f).1.got := congrArg Cr.got h1
    have hw : (x.takeF f).1.wrong = (x.cr.takeF f).1.wrong := congrArg Cr.wrong h1
    rw [feedL_cons, crFeedL_cons, hg, hw]
    split
    · exact ⟨h1, by rw [h2], h3⟩
    · rw [h1] at g1 g2
      exact ⟨g1, by rw [g2, h2], g3.trans h3⟩
theorem feed_cr (x : Lm) (b : List UInt8) : ((x.feed b).1.inn, (x.feed b).1.cr) = (crFeed x.inn x.cr b).1 ∧ (x.feed b).2 = (crFeed x.inn x.cr b).2 := by
  unfold Lm.feed crFeed
  have hg : x.cr.got = x.got := rfl
  have hw : x.cr.wrong = x.wrong := rfl
  rw [hg, hw]
  split
  · exact ⟨rfl, rfl⟩
  · obtain ⟨g1, g2, g3⟩ := feedL_cr (x.inn.feed b).1 { x with inn := (x.inn.feed b).2 }
    have hc : ({ x with inn := (x.inn.feed b).2 } : Lm).cr = x.cr := rfl
    rw [hc] at g1 g2
    dsimp only
    rw [g2]
    split
    · exact ⟨by rw [g1, g3], rfl⟩
    · obtain ⟨h1, h2⟩ := fail_cr (({ x with inn := (x.inn.feed b).2 } : Lm).feedL (x.inn.feed b).1).1 (x.inn.feed b).2.err
      exact ⟨by rw [h1, h2, g1, g3], rfl⟩
/-! ### 2. Bytes in pieces -/
def Stop (c : Cr) : Prop := c.got = true ∨ c.wrong ≠ 0
theorem feedL_append : ∀ (fs gs : List Fr) (c : Cr), c.feedL (fs ++ gs) = if (c.feedL fs).2.2 = true then c.feedL fs else (((c.feedL fs).1.feedL gs).1, (c.feedL fs).2.1 ++ ((c.feedL fs).1.feedL gs).2.1, ((c.feedL fs).1.feedL gs).2.2)
  | [], gs, c => by simp [Cr.feedL]
  | f :: fs, gs, c => by
    rw [List.cons_append, crFeedL_cons, crFeedL_cons]
    split
    · simp
    · rw [feedL_append fs gs]
      dsimp only
      split <;> simp
theorem feedL_stop : ∀ (fs : List Fr) (c : Cr), ((c.feedL fs).2.2 = true → Stop (c.feedL fs).1) ∧ ((c.feedL fs).2.2 = false → ¬ Stop c → ¬ Stop (c.feedL fs).1)
  | [], c => ⟨by simp [Cr.feedL], fun _ h => h⟩
  | f :: fs, c => by
    rw [crFeedL_cons]
    split
    · rename_i h; exact ⟨fun _ => h, by simp⟩
    · rename_i h
      obtain ⟨h1, h2⟩ := feedL_stop fs (c.takeF f).1
      exact ⟨h1, fun h3 _ => h2 h3 h⟩
/-- the same, as far as it matters -/
structure Eqv (a b : St × Cr) : Prop where
  cr : a.2 = b.2
  inn : ¬ Stop a.2 → a.1 = b.1
def InOk (s : St) (c : Cr) : Prop := ¬ Stop c → s.err = 0
theorem crFeed_stop {s : St} {c : Cr} (h : Stop c) (b : List UInt8) : crFeed s c b = ((s, c), []) := by unfold crFeed; exact if_pos h
theorem crFeed_go {s : St} {c : Cr} (h : ¬ Stop c) (he : s.err = 0) (b : List UInt8) : crFeed s c b =
    (({ s with part := (parse s.masked s.most (s.part ++ b)).2.1, err := (parse s.masked s.most (s.part ++ b)).2.2 }, if (c.feedL (parse s.masked s.most (s.part ++ b)).1).2.2 = true ∨ (parse s.masked s.most (s.part ++ b)).2.2 = 0 then (c.feedL (parse s.masked s.most (s.part ++ b)).1).1 else { (c.feedL (parse s.masked s.most (s.part ++ b)).1).1 with wrong := (parse s.masked s.most (s.part ++ b)).2.2, sent := true }), (c.feedL (parse s.masked s.most (s.part ++ b)).1).2.1) := by
  have e : s.feed b = ((parse s.masked s.most (s.part ++ b)).1, { s with part := (parse s.masked s.most (s.part ++ b)).2.1, err := (parse s.masked s.most (s.part ++ b)).2.2 }) := by rw [feed_parse, if_neg (by simp [he])]
  unfold crFeed
  have h' : ¬ (c.got = true ∨ c.wrong ≠ 0) := h
  rw [if_neg h']
  simp only [e]
theorem crFeed_ok {s : St} {c : Cr} (h : InOk s c) (b : List UInt8) : InOk (crFeed s c b).1.1 (crFeed s c b).1.2 := by
  by_cases hs : Stop c
  · rw [crFeed_stop hs]; exact h
  · rw [crFeed_go hs (h hs)]
    intro hn
    dsimp only at hn ⊢
    refine Decidable.byContradiction fun he => hn ?_
    split
    · rename_i h1
      rcases h1 with h1 | h1
      · exact (feedL_stop _ _).1 h1
      · exact absurd h1 he
    · exact .inr he
theorem crFeed_split {s : St} {c : Cr} (h : InOk s c) (p q : List UInt8) :
    Eqv (crFeed s c (p ++ q)).1 (crFeed (crFeed s c p).1.1 (crFeed s c p).1.2 q).1 ∧ (crFeed s c (p ++ q)).2 = (crFeed s c p).2 ++ (crFeed (crFeed s c p).1.1 (crFeed s c p).1.2 q).2 := by
  by_cases hs : Stop c
  · rw [crFeed_stop hs, crFeed_stop hs]
    dsimp only
    rw [crFeed_stop hs]
    exact ⟨⟨rfl, fun _ => rfl⟩, rfl⟩
  · have hpm := parse_more s.masked s.most (s.part ++ p) q
    rw [List.append_assoc] at hpm
    rw [crFeed_go hs (h hs) (p ++ q), crFeed_go hs (h hs) p, hpm]
    generalize hP : parse s.masked s.most (s.part ++ p) = P
    obtain ⟨fs, left, e⟩ := P
    dsimp only
    obtain ⟨f1, f2⟩ := feedL_stop fs c
    by_cases he : e = 0
    · subst he
      simp only [if_true, or_true]
      rw [feedL_append]
      by_cases hst : (c.feedL fs).2.2 = true
      · simp only [hst, if_true, true_or]
        have hS := f1 hst
        rw [crFeed_stop hS]
        exact ⟨⟨rfl, fun hn => absurd hS hn⟩, by simp⟩
      · have hst' : (c.feedL fs).2.2 = false := by simpa using hst
        have hN := f2 hst' hs
        simp only [hst', Bool.false_eq_true, if_false]
        rw [crFeed_go hN rfl q]
        exact ⟨⟨rfl, fun _ => rfl⟩, rfl⟩
    · rw [if_neg he]
      dsimp only
      have hS : Stop (if (c.feedL fs).2.2 = true ∨ e = 0 then (c.feedL fs).1 else { (c.feedL fs).1 with wrong := e, sent := true }) := by
        split
        · rename_i h1
          rcases h1 with h1 | h1
          · exact f1 h1
          · exact absurd h1 he
        · exact .inr he
      rw [crFeed_stop hS]
      exact ⟨⟨rfl, fun hn => absurd hS hn⟩, by simp⟩
theorem crFeed_eqv {a b : St × Cr} (h : Eqv a b) (q : List UInt8) : Eqv (crFeed a.1 a.2 q).1 (crFeed b.1 b.2 q).1 ∧ (crFeed a.1 a.2 q).2 = (crFeed b.1 b.2 q).2 := by
  obtain ⟨s, c⟩ := a
  obtain ⟨t, d⟩ := b
  have hc : c = d := h.cr
  subst hc
  by_cases hs : Stop c
  · rw [crFeed_stop hs, crFeed_stop hs]
    exact ⟨⟨rfl, fun hn => absurd hs hn⟩, rfl⟩
  · have : s = t := h.inn hs
    subst this
    exact ⟨⟨rfl, fun _ => rfl⟩, rfl⟩
theorem Eqv.trans {a b c : St × Cr} (h : Eqv a b) (k : Eqv b c) : Eqv a c := ⟨h.cr.trans k.cr, fun hn => (h.inn hn).trans (k.inn (by rw [← h.cr]; exact hn))⟩
theorem Eqv.symm {a b : St × Cr} (h : Eqv a b) : Eqv b a := ⟨h.cr.symm, fun hn => (h.inn (by rw [h.cr]; exact hn)).symm⟩
theorem Eqv.refl (a : St × Cr) : Eqv a a := ⟨rfl, fun _ => rfl⟩
def Lm.core (x : Lm) : St × Cr := (x.inn, x.cr)
theorem feed_core (x : Lm) (b : List UInt8) : (x.feed b).1.core = (crFeed x.inn x.cr b).1 ∧ (x.feed b).2 = (crFeed x.inn x.cr b).2 := feed_cr x b
/-- one more piece -/
theorem pieces {x0 x : Lm} {all : List UInt8} {es : List Ev} (h0 : InOk x0.inn x0.cr) (h1 : Eqv x.core (x0.feed all).1.core) (h2 : es = (x0.feed all).2) (s : List UInt8) :
    Eqv (x.feed s).1.core (x0.feed (all ++ s)).1.core ∧ es ++ (x.feed s).2 = (x0.feed (all ++ s)).2 := by
  obtain ⟨a1, a2⟩ := feed_core x0 all
  obtain ⟨b1, b2⟩ := feed_core x0 (all ++ s)
  obtain ⟨c1, c2⟩ := feed_core x s
  obtain ⟨d1, d2⟩ := crFeed_split h0 all s
  rw [a1] at h1
  obtain ⟨e1, e2⟩ := crFeed_eqv h1 s
  rw [b1, c1, b2, c2, h2, a2]
  exact ⟨e1.trans d1.symm, by rw [d2]; congr 1⟩
end Go.Proofs.Ytjdnjlnfcbaokaa

/-
  SPECS, 17: what a side is at any time; acts. Own work.
-/
import Derived.Test.YtjdnjlnfcbaokaaGreatSp16
set_option linter.unusedVariables false
set_option linter.unusedSimpArgs false
set_option maxRecDepth 20000
namespace Go.Proofs.YtjdnjlnfcbaokaaGreat
open Go Go.Lg
variable {α β σ τ : Type} {ρ : Hp} {L M : As} {K : Nat}

theorem ringFact {r most : Nat} {q : List UInt8} {m : G β} {C : β → As → Prop} (h : q.length ≤ most → 0 < most → most ≤ 65536 → Tri ρ (ringI r most q :: L) m C) : Tri ρ (ringI r most q :: L) m C :=
  ringOpen fun h1 h2 h3 b at_ cs h4 h5 h6 => ringClose h1 h2 h3 h4 h5 h6 (h h1 h2 h3)
theorem msgFact {a : Nat} {s : Ms} {m : G β} {C : β → As → Prop} (h : s.ok → Tri ρ (msgI a s :: L) m C) : Tri ρ (msgI a s :: L) m C :=
  msgOpen fun hok p t hp => msgClose hok (h hok)
/-- what holds of a side at any time -/
structure LegAt (c : Tapi_Config) (x : Lm) : Prop where
  ok : x.Ok
  cfg : cfgOk c x
  ring : x.ring.length ≤ x.out
  out : 0 < x.out ∧ x.out ≤ 65536
  m : x.m.ok
theorem legFact {a : Nat} {c : Tapi_Config} {x : Lm} {m : G β} {C : β → As → Prop} (h : LegAt c x → Tri ρ (legI a c x :: L) m C) : Tri ρ (legI a c x :: L) m C := by
  refine legOpen fun hok hcfg si mi ri tl ct rs htl hct hrs => ?_
  refine Tri.pick 1 rfl (ringFact fun h1 h2 h3 => ?_)
  refine Tri.pick 6 rfl (msgFact fun h4 => ?_)
  refine Tri.order [2, 1, 1, 1, 1, 1, 0] rfl ?_
  exact legClose hok hcfg htl hct hrs (h ⟨hok, hcfg, h1, ⟨h2, h3⟩, h4⟩)
theorem ba_data (s : ByteArray) : ba s.data.toList = s := by
  apply ByteArray.ext; simp [ba]
/-- an act -/
def Lm.act (x : Lm) (k op code n : Int) (s : List UInt8) : Lm :=
  if k = 0 then (x.feed s).1 else if k = 1 then (x.send ⟨op, 0, s⟩).1 else if k = 2 then (x.ping s).1 else if k = 3 then (x.close code s).1 else if k = 4 then x.out' n else x
theorem act_ok {x : Lm} (hok : x.Ok) (h : x.Fit) (h9 : cnt 9 x.ctl < 549755813888) (k op code n : Int) (s : List UInt8) : (x.act k op code n s).Ok ∧ (x.act k op code n s).Fit := by
  unfold Lm.act
  split
  · exact feed_ok hok h _
  · split
    · exact send_ok hok h _
    · split
      · exact ping_ok hok h h9 _
      · split
        · exact close_ok hok h _ _
        · split
          · exact out_ok hok h _
          · exact ⟨hok, h⟩
/-! #### what acts leave alone, and how many pings there are -/
structure Kin (x y : Lm) : Prop where
  message : y.message = x.message
  frame : y.frame = x.frame
  out : y.out = x.out
  masks : y.masks = x.masks
theorem Kin.refl (x : Lm) : Kin x x := ⟨rfl, rfl, rfl, rfl⟩
theorem Kin.trans {x y z : Lm} (h : Kin x y) (k : Kin y z) : Kin x z := ⟨k.1.trans h.1, k.2.trans h.2, k.3.trans h.3, k.4.trans h.4⟩
theorem Alike.kin {x y : Lm} (h : Alike x y) : Kin x y := ⟨h.message, h.frame, h.out, h.masks⟩
theorem moveF_kin : ∀ (k : Nat) (x : Lm), Alike x (Lm.moveF k x)
  | 0, x => Alike.refl x
  | k + 1, x => by
    unfold Lm.moveF
    split
    · cases hn : x.push.next with
      | none => exact alike_push x
      | some q =>
        obtain ⟨f, y⟩ := q
        exact (alike_push x).trans ((alike_next hn).trans (Alike.trans (y := { y with tail := frPut f }) ⟨rfl, rfl, rfl, rfl, rfl, rfl, rfl, rfl, rfl⟩ (moveF_kin k _)))
    · exact alike_push x
theorem alike_move (x : Lm) : Alike x x.move := moveF_kin _ x
theorem cnt9_addC (x : Lm) (f : Fr) : cnt 9 (x.addC f).ctl ≤ cnt 9 x.ctl + if f.op = 9 then 1 else 0 := by
  unfold Lm.addC
  refine Nat.le_trans (cnt_move 9 _) ?_
  show cnt 9 (x.ctl ++ [f]) ≤ _
  rw [cnt_append, cnt_one]; exact Nat.le_refl _
theorem kin_addC (x : Lm) (f : Fr) : Kin x (x.addC f) := Kin.trans (y := { x with ctl := x.ctl ++ [f] }) ⟨rfl, rfl, rfl, rfl⟩ (alike_move _).kin
theorem kin_close (x : Lm) (c : Int) (w : List UInt8) : Kin x (x.close c w).1 ∧ cnt 9 (x.close c w).1.ctl ≤ cnt 9 x.ctl := by
  unfold Lm.close
  split
  · exact ⟨Kin.refl x, Nat.le_refl _⟩
  · exact ⟨Kin.trans (y := { x with sent := true, rest := [] }) ⟨rfl, rfl, rfl, rfl⟩ (kin_addC _ _), cnt9_addC _ _⟩
theorem kin_pong (x : Lm) (d : List UInt8) : Kin x (x.pong d) ∧ cnt 9 (x.pong d).ctl ≤ cnt 9 x.ctl := by
  unfold Lm.pong
  split
  · exact ⟨Kin.refl x, Nat.le_refl _⟩
  · cases pongAt x.ctl with
    | some i =>
      refine ⟨Kin.trans (y := { x with ctl := setD x.ctl i d }) ⟨rfl, rfl, rfl, rfl⟩ (alike_move _).kin, Nat.le_trans (cnt_move 9 _) ?_⟩
      show cnt 9 (setD x.ctl i d) ≤ _
      rw [setD_cnt]; exact Nat.le_refl _
    | none => exact ⟨kin_addC _ _, cnt9_addC _ _⟩
theorem kin_fail (x : Lm) (e : Nat) : Kin x (x.fail e) ∧ cnt 9 (x.fail e).ctl ≤ cnt 9 x.ctl := by
  obtain ⟨h1, h2⟩ := kin_close { x with wrong := e } (codeOf e) []
  exact ⟨Kin.trans (y := { x with wrong := e }) ⟨rfl, rfl, rfl, rfl⟩ h1, h2⟩
theorem kin_takeF (x : Lm) (f : Fr) : Kin x (x.takeF f).1 ∧ cnt 9 (x.takeF f).1.ctl ≤ cnt 9 x.ctl := by
  have k1 : Kin x { x with m := (x.m.take f).1 } := ⟨rfl, rfl, rfl, rfl⟩
  unfold Lm.takeF
  dsimp only
  split
  · obtain ⟨h1, h2⟩ := kin_fail { x with m := (x.m.take f).1 } (x.m.take f).2.2.2
    exact ⟨k1.trans h1, h2⟩
  · split
    · obtain ⟨h1, h2⟩ := kin_pong { x with m := (x.m.take f).1 } (x.m.take f).2.1.data
      exact ⟨k1.trans h1, h2⟩
    · split
      · obtain ⟨h1, h2⟩ := kin_close { x with m := (x.m.take f).1, got := true } (acrossOf (x.m.take f).2.1.code) []
        exact ⟨Kin.trans (y := { x with m := (x.m.take f).1, got := true }) ⟨rfl, rfl, rfl, rfl⟩ h1, h2⟩
      · exact ⟨k1, Nat.le_refl _⟩
theorem kin_feedL : ∀ (fs : List Fr) (x : Lm), Kin x (x.feedL fs).1 ∧ cnt 9 (x.feedL fs).1.ctl ≤ cnt 9 x.ctl
  | [], x => ⟨Kin.refl x, Nat.le_refl _⟩
  | f :: fs, x => by
    obtain ⟨h1, h2⟩ := kin_takeF x f
    rw [feedL_cons]
    split
    · exact ⟨h1, h2⟩
    · obtain ⟨h3, h4⟩ := kin_feedL fs (x.takeF f).1
      exact ⟨h1.trans h3, Nat.le_trans h4 h2⟩
theorem kin_feed (x : Lm) (b : List UInt8) : Kin x (x.feed b).1 ∧ cnt 9 (x.feed b).1.ctl ≤ cnt 9 x.ctl := by
  unfold Lm.feed
  split
  · exact ⟨Kin.refl x, Nat.le_refl _⟩
  · obtain ⟨h1, h2⟩ := kin_feedL (x.inn.feed b).1 { x with inn := (x.inn.feed b).2 }
    have h1' : Kin x (({ x with inn := (x.inn.feed b).2 } : Lm).feedL (x.inn.feed b).1).1 := Kin.trans (y := { x with inn := (x.inn.feed b).2 }) ⟨rfl, rfl, rfl, rfl⟩ h1
    dsimp only
    split
    · exact ⟨h1', h2⟩
    · obtain ⟨h3, h4⟩ := kin_fail (({ x with inn := (x.inn.feed b).2 } : Lm).feedL (x.inn.feed b).1).1 (x.inn.feed b).2.err
      exact ⟨h1'.trans h3, Nat.le_trans h4 h2⟩
theorem kin_send (x : Lm) (e : Ev) : Kin x (x.send e).1 ∧ cnt 9 (x.send e).1.ctl ≤ cnt 9 x.ctl := by
  unfold Lm.send
  split
  · exact ⟨Kin.trans (y := { x with rest := cutF e.op.toNat e.data x.frame }) ⟨rfl, rfl, rfl, rfl⟩ (alike_move _).kin, cnt_move 9 { x with rest := cutF e.op.toNat e.data x.frame }⟩
  · exact ⟨Kin.refl x, Nat.le_refl _⟩
theorem kin_ping (x : Lm) (d : List UInt8) : Kin x (x.ping d).1 ∧ cnt 9 (x.ping d).1.ctl ≤ cnt 9 x.ctl + 1 := by
  unfold Lm.ping
  split
  · exact ⟨Kin.refl x, Nat.le_succ _⟩
  · exact ⟨kin_addC _ _, cnt9_addC _ _⟩
theorem kin_out (x : Lm) (n : Int) : Kin x (x.out' n) ∧ cnt 9 (x.out' n).ctl ≤ cnt 9 x.ctl :=
  ⟨Kin.trans (y := { x with ring := x.ring.drop n.toNat }) ⟨rfl, rfl, rfl, rfl⟩ (alike_move _).kin, cnt_move 9 { x with ring := x.ring.drop n.toNat }⟩
theorem kin_act (x : Lm) (k op code n : Int) (s : List UInt8) : Kin x (x.act k op code n s) ∧ cnt 9 (x.act k op code n s).ctl ≤ cnt 9 x.ctl + 1 := by
  unfold Lm.act
  split
  · exact ⟨(kin_feed x s).1, Nat.le_succ_of_le (kin_feed x s).2⟩
  · split
    · exact ⟨(kin_send x _).1, Nat.le_succ_of_le (kin_send x _).2⟩
    · split
      · exact kin_ping x s
      · split
        · exact ⟨(kin_close x code s).1, Nat.le_succ_of_le (kin_close x code s).2⟩
        · split
          · exact ⟨(kin_out x n).1, Nat.le_succ_of_le (kin_out x n).2⟩
          · exact ⟨Kin.refl x, Nat.le_succ _⟩
end Go.Proofs.YtjdnjlnfcbaokaaGreat

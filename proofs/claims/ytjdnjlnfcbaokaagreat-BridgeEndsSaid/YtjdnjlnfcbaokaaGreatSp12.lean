/-
  SPECS, 12: leg: pong, take, Feed. Own work.
-/
import Derived.Test.YtjdnjlnfcbaokaaGreatSp11
set_option linter.unusedVariables false
set_option linter.unusedSimpArgs false
set_option maxRecDepth 20000
namespace Go.Proofs.YtjdnjlnfcbaokaaGreat
open Go Go.Lg
variable {α β σ τ : Type} {ρ : Hp} {L M : As} {K : Nat}

theorem frl_setD : ∀ (l : List Fr) (i : Nat) (d : List UInt8), i < l.length → splice (frl l) (i * 8 + 7) [.string (ba d)] = frl (setD l i d)
  | [], i, d, h => by simp at h
  | f :: l, 0, d, h => by
    have e : frl (f :: l) = frc f ++ frl l := by simp [frl]
    have e2 : frl (setD (f :: l) 0 d) = frc { f with data := d } ++ frl l := by simp [frl, setD]
    rw [e, e2]
    simp [splice, frc]
  | f :: l, i + 1, d, h => by
    have ih := frl_setD l i d (by simpa using h)
    have e : frl (f :: l) = frc f ++ frl l := by simp [frl]
    have e2 : frl (setD (f :: l) (i + 1) d) = frc f ++ frl (setD l i d) := by simp [frl, setD]
    have e3 : (i + 1) * 8 + 7 = (frc f).length + (i * 8 + 7) := by rw [frc_len]; omega
    rw [e, e2, ← ih, e3]
    unfold splice
    rw [List.take_length_add_append, Nat.add_assoc, List.drop_length_add_append, List.append_assoc, List.append_assoc, List.append_assoc]
/-- a store into one cell of an element -/
theorem Tri.stRowAt {s : Sl} {sz i k : Nat} {l : List Value} {x : Addr} {v : Value} {f : G β} {C : β → As → Prop} (hx : Spot ρ s sz i x) (hi : i < s.n) (hk : k < sz) (hv : v.cells.toList = [v]) (ho : one v = true) (h : Tri ρ (row s sz (splice l (i * sz + k) [v]) :: L) f C) : Tri ρ (row s sz l :: L) (Lg.st (x.add k) v f) C := by
  refine Tri.rowOpen (fun ha hn => ?_) (fun b o cs ha hb hv' hl hc => ?_)
  · omega
  · unfold Spot at hx
    rw [ha] at hx
    simp only [Option.map_some, Option.some.injEq] at hx
    subst hx
    have hm : i * sz + sz ≤ s.n * sz := by
      have : (i + 1) * sz ≤ s.n * sz := Nat.mul_le_mul_right _ hi
      rw [Nat.add_mul, Nat.one_mul] at this; exact this
    have hm2 : s.n * sz ≤ s.c * sz := Nat.mul_le_mul_right _ hc
    rw [addr_add, addr_add]
    refine Tri.stB (i := o + i * sz + k) (l := [v]) hv (by simp; omega) (by simp [ho]) ?_
    have hls : (splice l (i * sz + k) [v]).length = l.length := splice_length (by simp; omega)
    have hlc : (splice cs (o + i * sz + k) [v]).length = cs.length := splice_length (by simp; omega)
    refine Tri.rowClose (b := b) (o := o) ha (by rw [hlc]; exact hb) (by rw [hls]; exact hl) hc ?_ h
    rw [hls]
    apply List.ext_getElem?
    intro j
    rw [List.getElem?_take]
    by_cases hj : j < l.length
    · rw [if_pos hj, List.getElem?_drop, splice_get _ _ _ _ (by simp; omega), splice_get _ _ _ _ (by simp; omega)]
      have hd : cs[o + j]? = l[j]? := by rw [← hv', List.getElem?_take, if_pos hj, List.getElem?_drop]
      simp only [List.length_cons, List.length_nil]
      by_cases c1 : j < i * sz + k
      · rw [if_pos (by omega), if_pos c1]; exact hd
      · rw [if_neg (by omega), if_neg c1]
        by_cases c2 : j < i * sz + k + (0 + 1)
        · rw [if_pos (by omega), if_pos c2]; congr 1; omega
        · rw [if_neg (by omega), if_neg c2]; exact hd
    · rw [if_neg hj, List.getElem?_eq_none (by rw [hls]; omega)]
theorem pong_okE {x : Lm} (hok : x.Ok) (h : x.Fit) {i : Nat} {d : List UInt8} (hd : d.length ≤ 125) : ({ x with ctl := setD x.ctl i d } : Lm).Ok ∧ ({ x with ctl := setD x.ctl i d } : Lm).Fit := by
  refine ⟨⟨hok.message, hok.frame, hok.most, hok.mm, hok.draw, ?_, hok.rest, hok.tail⟩, ⟨h.part, h.rest, ?_, ?_, ?_, ?_, h.mop⟩⟩
  · intro f hf
    rcases setD_mem hf with hf | ⟨g, hg, rfl⟩
    · exact hok.ctl f hf
    · exact okF_data (hok.ctl g hg) hd
  · show cnt 10 (setD x.ctl i d) ≤ 1; rw [setD_cnt]; exact h.pong
  · show cnt 8 (setD x.ctl i d) ≤ _; rw [setD_cnt]; exact h.end_
  · show cnt 9 (setD x.ctl i d) ≤ _; rw [setD_cnt]; exact h.ping
  · intro f hf
    rcases setD_mem hf with hf | ⟨g, hg, rfl⟩
    · exact h.ops f hf
    · exact h.ops g hg
theorem pong_ok {x : Lm} (hok : x.Ok) (h : x.Fit) {d : List UInt8} (hd : d.length ≤ 125) : (x.pong d).Ok ∧ (x.pong d).Fit := by
  unfold Lm.pong
  split
  · exact ⟨hok, h⟩
  · cases hp : pongAt x.ctl with
    | some i =>
      obtain ⟨q1, q2⟩ := pong_okE (i := i) hok h hd
      exact ⟨(move_ok q1).1, q2.move q1⟩
    | none =>
      obtain ⟨q1, q2⟩ := addC_ok hok h (ctlF_ok (op := 10) (.inr (.inr rfl)) hd) (.inr (.inr rfl)) (fun _ => pongAt_none hp) (by simp [ctlF]) (by simp [ctlF])
      exact ⟨(move_ok q1).1, q2.move q1⟩
theorem setD_last (l : List Fr) (g : Fr) (d : List UInt8) : setD (l ++ [g]) l.length d = l ++ [{ g with data := d }] := by
  induction l with
  | nil => rfl
  | cons f l ih => simp only [setD, List.cons_append, List.length_cons, List.modify_succ_cons] at ih ⊢; rw [ih]
theorem legPongS {a : Nat} {c : Tapi_Config} {x : Lm} {d : List UInt8} (hK : KBig K) (h : x.Fit) (hd : d.length ≤ 125) :
    Tri ρ (legI a c x :: L) (leg_Leg_pong K (some ⟨a, 0, none⟩) (ba d)) (fun _ L' => L' = legI a c (x.pong d) :: L) := by
  unfold leg_Leg_pong
  have hl := h.len
  refine legOpen fun hok hcfg si mi ri tl ct rs htl hct hrs => ?_
  refine Tri.nn (Tri.ldB (Cell.here (i := 20) rfl) ?_)
  cases hs : x.sent with
  | true =>
    simp only [if_true]
    have hc : x.pong d = x := by unfold Lm.pong; rw [if_pos hs]
    rw [hc]
    exact legClose hok hcfg htl hct hrs (Tri.ret rfl)
  | false =>
    simp only [Bool.false_eq_true, if_false]
    refine Tri.nn (Tri.ldSl ct (Cell.here (i := 16) rfl) ?_)
    refine Tri.bnd (indexF_spec hK (Rd.row.tail.tail.tail) hct (by omega)) ?_
    rintro _ _ ⟨rfl, rfl⟩
    -- what is done behind
    have fin : ∀ (y : Lm) (ct' : Sl) (i : Nat), y.Ok → y.Fit → cfgOk c y → ct'.n = y.ctl.length → i < y.ctl.length → y.tail = x.tail → y.rest = x.rest → y.ring = x.ring → y.out = x.out → y.inn = x.inn → y.m = x.m →
        ({ y with ctl := setD y.ctl i d } : Lm).Ok → ({ y with ctl := setD y.ctl i d } : Lm).Fit → ({ y with ctl := setD y.ctl i d } : Lm).move = x.pong d →
        Tri ρ (pts a (legC c y si mi ri tl ct' rs) :: ringI ri x.out x.ring :: row tl 1 (bl x.tail) :: row ct' 8 (frl y.ctl) :: row rs 8 (frl x.rest) :: streamI si x.inn :: msgI mi x.m :: L)
        (nn (some (⟨a, 0, none⟩ : Addr)) fun x23 => ldSl (x23.add 16) fun x24 => ixA x24 (i : Int) 8 fun x25 => st (x25.add 7) (.string (ba d)) <| bnd (leg_Leg_move K (some ⟨a, 0, none⟩)) fun x26 => ret ())
        (fun _ L' => L' = legI a c (x.pong d) :: L) := by
      intro y ct' i h1 h2 h3 h4 h5 h6 h7 h8 h9 h10 h11 h12 h13 h14
      refine Tri.nn (Tri.ldSl ct' (Cell.here (i := 16) rfl) ?_)
      refine Tri.ixA i (l := frl y.ctl) Rd.row.tail.tail.tail rfl (by omega) (by intro e; have e9 := congrArg List.length e; rw [frl_length, List.length_nil] at e9; omega) fun x25 hx => ?_
      refine Tri.order [3] rfl (Tri.stRowAt hx (by omega) (by omega) rfl rfl ?_)
      rw [frl_setD _ _ _ h5]
      refine Tri.order [1, 1, 1] rfl ?_
      have e2 : legC c y si mi ri tl ct' rs = legC c { y with ctl := setD y.ctl i d } si mi ri tl ct' rs := rfl
      rw [e2, ← h9, ← h8, ← h6, ← h7, ← h10, ← h11]
      exact moveC (y := { y with ctl := setD y.ctl i d }) hK h12 h13 h3 (by rw [htl, ← h6]) (by show ct'.n = (setD y.ctl i d).length; rw [setD_length, h4]) (by rw [hrs, ← h7]) (by rw [h14]; exact Tri.ret rfl)
    cases hp : pongAt x.ctl with
    | some i =>
      have hi : i < x.ctl.length := pongAt_some hp
      have e1 : pongI x.ctl = (i : Int) := by simp [pongI, hp]
      have e2 : decide ((i : Int) < 0) = false := by simp
      rw [e1, e2]
      simp only [Bool.false_eq_true, if_false, bnd_ret]
      obtain ⟨q1, q2⟩ := pong_okE (i := i) hok h hd
      exact fin x ct i hok h hcfg hct hi rfl rfl rfl rfl rfl rfl q1 q2 (by unfold Lm.pong; rw [if_neg (by rw [hs]; decide), hp])
    | none =>
      have e1 : pongI x.ctl = -1 := by simp [pongI, hp]
      have e2 : decide ((-1 : Int) < 0) = true := by decide
      rw [e1, e2]
      simp only [if_true, bnd_ret, bnd_bnd, bnd_ite, bnd_lt, bnd_ldB, bnd_ldI, bnd_ldS, bnd_ldP, bnd_ldSl, bnd_ldG, bnd_nn, bnd_ixA, bnd_st, bnd_drw, bnd_strOf, bnd_new, bnd_slS, bnd_slA, bnd_slStr, bnd_app, bnd_appS, bnd_appT, bnd_appZ, bnd_chk, bnd_mk, bnd_cpy, bnd_wld, bnd_agr, bnd_bytesOf, bnd_drw2, bnd_mrk, bnd_fail, sumK_inl, sumK_inr, bnd_inr]
      refine Tri.nn (Tri.ldSl ct (Cell.here (i := 16) rfl) ?_)
      have et : Tapi_Frame.mk true (10 : Int) false (0 : Int) (0 : Int) (0 : Int) (0 : Int) (ByteArray.mk #[]) = (ctlF 10 []).t := rfl
      rw [et]
      refine Tri.new fun b => ?_
      refine Tri.pick 4 rfl ?_
      refine Tri.appS (new := frc (ctlF 10 [])) (Rd.pts (o := 0) rfl (by simp [Fr.cells]) rfl) rfl rfl (by simp; omega) fun ct' hct' => ?_
      rw [← frl_snoc]
      refine Tri.nn ?_
      refine Tri.pick 2 rfl ?_
      refine Tri.stB (i := 16) (l := [.slice ct'.a ct'.n ct'.c]) (by rfl) (by simp [legC]) rfl ?_
      have e3 : splice (legC c x si mi ri tl ct rs) 16 [.slice ct'.a ct'.n ct'.c] = legC c { x with ctl := x.ctl ++ [ctlF 10 []] } si mi ri tl ct' rs := rfl
      rw [e3]
      refine Tri.order [2] rfl (Tri.drop (Tri.order [0, 1, 1] rfl ?_))
      refine Tri.nn (Tri.ldSl ct' (Cell.here (i := 16) rfl) (Tri.lt ?_))
      have hn' : ct'.n = x.ctl.length + 1 := by rw [hct', hct]
      have e4 : IntKind.wrap .i64 ((ct'.n : Int) - 1) = ((x.ctl.length : Nat) : Int) := by rw [w64 (by omega) (by omega)]; omega
      rw [e4]
      obtain ⟨q1, q2⟩ := addC_ok (f := ctlF 10 []) hok h (ctlF_ok (op := 10) (.inr (.inr rfl)) (by simp)) (.inr (.inr rfl)) (fun _ => pongAt_none hp) (by simp [ctlF]) (by simp [ctlF])
      obtain ⟨r1, r2⟩ := pong_okE (i := x.ctl.length) q1 q2 hd
      refine fin { x with ctl := x.ctl ++ [ctlF 10 []] } ct' x.ctl.length q1 q2 hcfg (by show ct'.n = (x.ctl ++ [ctlF 10 []]).length; rw [hn']; simp) (by show _ < (x.ctl ++ [ctlF 10 []]).length; simp) rfl rfl rfl rfl rfl rfl r1 r2 ?_
      have e5 : setD (x.ctl ++ [ctlF 10 []]) x.ctl.length d = x.ctl ++ [ctlF 10 d] := setD_last _ _ _
      show ({ x with ctl := setD (x.ctl ++ [ctlF 10 []]) x.ctl.length d } : Lm).move = _
      rw [e5]
      unfold Lm.pong
      rw [if_neg (by rw [hs]; decide), hp]; rfl
/-! ### take -/
theorem begun_most (m : Ms) (f : Fr) : (m.begun f).most = m.most := by unfold Ms.begun; split <;> rfl
theorem mtake_most (m : Ms) (f : Fr) : (m.take f).1.most = m.most := by
  unfold Ms.take
  split
  · rfl
  · split
    · rfl
    · split
      · rfl
      · split
        · unfold Ms.endM; dsimp only; split <;> rfl
        · split
          · rfl
          · unfold Ms.dataM
            split
            · rfl
            · dsimp only
              split
              · exact begun_most m f
              · split
                · show (if (m.begun f).op = 1 then _ else _ : Ms).most = _
                  split <;> exact begun_most m f
                · split
                  · show (if (m.begun f).op = 1 then _ else _ : Ms).most = _
                    split <;> exact begun_most m f
                  · show (if (m.begun f).op = 1 then _ else _ : Ms).most = _
                    split <;> exact begun_most m f
/-- what is told of a ping, or a pong, is a control frame's -/
theorem mtake_ctl {m : Ms} {f : Fr} (hm : m.op ≤ 2) (h : (m.take f).2.2.1 = true) (h9 : (m.take f).2.1.op = 9) : (m.take f).2.1.data.length ≤ 125 := by
  unfold Ms.take at h h9 ⊢
  split at h
  · simp at h
  · rename_i c1
    rw [if_neg c1] at h9 ⊢
    split at h
    · simp at h
    · rename_i c2
      rw [if_neg c2] at h9 ⊢
      split at h
      · simp at h
      · rename_i c3
        rw [if_neg c3] at h9 ⊢
        have hform : formF f = true := by
          cases hf : formF f with
          | true => rfl
          | false => simp [chkF, hf] at c3
        split at h
        · rename_i c4
          rw [if_pos c4] at h9
          unfold Ms.endM at h9
          dsimp only at h9
          split at h9
          · simp [Ev.none] at h9
          · simp at h9
        · rename_i c4
          rw [if_neg c4] at h9 ⊢
          split at h
          · rename_i c5
            rw [if_pos c5]
            exact (ctl_small hform c5).2
          · rename_i c5
            rw [if_neg c5] at h9 ⊢
            have hb : (m.begun f).op ≤ 2 ∨ (m.begun f).op = f.op := by
              unfold Ms.begun
              split
              · exact .inr rfl
              · exact .inl hm
            have hf9 : f.op ≠ 9 := fun e => by rw [e] at c5; simp [ctlOp] at c5
            unfold Ms.dataM at h9
            dsimp only at h9
            split at h9
            · simp [Ev.none] at h9
            · split at h9
              · simp [Ev.none] at h9
              · split at h9
                · simp [Ev.none] at h9
                · split at h9
                  · simp [Ev.none] at h9
                  · have : ((if (m.begun f).op = 1 then { (m.begun f) with text := utFeed (m.begun f).text f.data } else m.begun f : Ms).op : Int) = ((m.begun f).op : Int) := by split <;> rfl
                    simp only at h9
                    rw [this] at h9
                    omega
end Go.Proofs.YtjdnjlnfcbaokaaGreat

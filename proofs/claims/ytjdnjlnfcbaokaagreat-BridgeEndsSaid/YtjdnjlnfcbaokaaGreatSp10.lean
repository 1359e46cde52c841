/-
  SPECS, 10: leg: what is to go out (push, next, move). Own work.
-/
import Derived.Test.YtjdnjlnfcbaokaaGreatSp9
set_option linter.unusedVariables false
set_option linter.unusedSimpArgs false
set_option maxRecDepth 20000
namespace Go.Proofs.YtjdnjlnfcbaokaaGreat
open Go Go.Lg
variable {α β σ τ : Type} {ρ : Hp} {L M : As} {K : Nat}

/-- one side -/
structure Lm where
  message : Nat
  frame : Nat
  out : Nat
  masks : Bool
  draw : Nat
  inn : St
  m : Ms
  ring : List UInt8
  tail : List UInt8
  ctl : List Fr
  rest : List Fr
  sent : Bool
  got : Bool
  wrong : Nat
def okF (f : Fr) : Prop := formF f = true ∧ f.data.length ≤ 65536 ∧ f.masked = false
structure Lm.Ok (x : Lm) : Prop where
  message : 0 < x.message ∧ x.message ≤ 65536
  frame : 0 < x.frame ∧ x.frame ≤ 65536
  most : x.inn.most = max x.message 125
  mm : x.m.most = x.message
  draw : x.draw < 4294967296
  ctl : ∀ f ∈ x.ctl, okF f
  rest : ∀ f ∈ x.rest, okF f
  tail : x.tail.length ≤ 1099511627776
def cfgC (c : Tapi_Config) : List Value := Agg.cells c
def cfgOk (c : Tapi_Config) (x : Lm) : Prop := c.Message = (x.message : Int) ∧ c.Frame = (x.frame : Int) ∧ c.Out = (x.out : Int)
def legC (c : Tapi_Config) (x : Lm) (si mi ri : Nat) (tl ct rs : Sl) : List Value :=
  [.slice c.Routes.a c.Routes.n c.Routes.c, .slice c.Origins.a c.Origins.n c.Origins.c, .int .i64 c.Table, .int .i64 c.Message, .int .i64 c.Frame, .int .i64 c.Count, .int .i64 c.Bytes, .int .i64 c.Out, .int .i64 c.Shake, .int .i64 c.Idle, .int .i64 c.Pong, .int .i64 c.Close,
   .pointer (some ⟨si, 0, none⟩), .pointer (some ⟨mi, 0, none⟩), .pointer (some ⟨ri, 0, none⟩), .slice tl.a tl.n tl.c, .slice ct.a ct.n ct.c, .slice rs.a rs.n rs.c, .bool x.masks, .int .u32 x.draw, .bool x.sent, .bool x.got, .int .i64 x.wrong]
/-- its parts, but for those that came in -/
def legOut (a : Nat) (c : Tapi_Config) (x : Lm) (si mi ri : Nat) (tl ct rs : Sl) : As :=
  [pts a (legC c x si mi ri tl ct rs), ringI ri x.out x.ring, row tl 1 (bl x.tail), row ct 8 (frl x.ctl), row rs 8 (frl x.rest)]
def legI (a : Nat) (c : Tapi_Config) (x : Lm) : Assn := fun h => x.Ok ∧ cfgOk c x ∧ ∃ (si mi ri : Nat) (tl ct rs : Sl), tl.n = x.tail.length ∧ ct.n = x.ctl.length ∧ rs.n = x.rest.length ∧
  sat (legOut a c x si mi ri tl ct rs ++ [streamI si x.inn, msgI mi x.m]) h
theorem legOpen {a : Nat} {c : Tapi_Config} {x : Lm} {m : G β} {C : β → As → Prop}
    (h : x.Ok → cfgOk c x → ∀ (si mi ri : Nat) (tl ct rs : Sl), tl.n = x.tail.length → ct.n = x.ctl.length → rs.n = x.rest.length →
      Tri ρ (pts a (legC c x si mi ri tl ct rs) :: ringI ri x.out x.ring :: row tl 1 (bl x.tail) :: row ct 8 (frl x.ctl) :: row rs 8 (frl x.rest) :: streamI si x.inn :: msgI mi x.m :: L) m C) : Tri ρ (legI a c x :: L) m C := by
  refine Tri.openA (P := fun N => x.Ok ∧ cfgOk c x ∧ ∃ (si mi ri : Nat) (tl ct rs : Sl), tl.n = x.tail.length ∧ ct.n = x.ctl.length ∧ rs.n = x.rest.length ∧ N = legOut a c x si mi ri tl ct rs ++ [streamI si x.inn, msgI mi x.m]) ?_ ?_
  · rintro k ⟨h1, h2, si, mi, ri, tl, ct, rs, h3, h4, h5, h6⟩; exact ⟨_, ⟨h1, h2, si, mi, ri, tl, ct, rs, h3, h4, h5, rfl⟩, h6⟩
  · rintro N ⟨h1, h2, si, mi, ri, tl, ct, rs, h3, h4, h5, rfl⟩; exact h h1 h2 si mi ri tl ct rs h3 h4 h5
theorem legClose {a : Nat} {c : Tapi_Config} {x : Lm} {m : G β} {C : β → As → Prop} {si mi ri : Nat} {tl ct rs : Sl} (h1 : x.Ok) (h2 : cfgOk c x) (h3 : tl.n = x.tail.length) (h4 : ct.n = x.ctl.length) (h5 : rs.n = x.rest.length)
    (h : Tri ρ (legI a c x :: L) m C) : Tri ρ (pts a (legC c x si mi ri tl ct rs) :: ringI ri x.out x.ring :: row tl 1 (bl x.tail) :: row ct 8 (frl x.ctl) :: row rs 8 (frl x.rest) :: streamI si x.inn :: msgI mi x.m :: L) m C :=
  Tri.close (N := legOut a c x si mi ri tl ct rs ++ [streamI si x.inn, msgI mi x.m]) (fun k hk => ⟨h1, h2, si, mi, ri, tl, ct, rs, h3, h4, h5, hk⟩) h
/-! ### push -/
def Lm.push (x : Lm) : Lm := { x with ring := x.ring ++ x.tail.take (min (x.out - x.ring.length) x.tail.length), tail := x.tail.drop (min (x.out - x.ring.length) x.tail.length) }
theorem push_spec {a : Nat} {c : Tapi_Config} {x : Lm} {si mi ri : Nat} {tl ct rs : Sl} (htl : tl.n = x.tail.length) (hb : x.tail.length ≤ 1099511627776) :
    Tri ρ (pts a (legC c x si mi ri tl ct rs) :: ringI ri x.out x.ring :: row tl 1 (bl x.tail) :: L) (leg_output_push K (some ((⟨a, 0, none⟩ : Addr).add 14)))
      (fun r L' => r = decide (x.push.tail = []) ∧ ∃ tl' : Sl, tl'.n = x.push.tail.length ∧ L' = pts a (legC c x.push si mi ri tl' ct rs) :: ringI ri x.out x.push.ring :: row tl' 1 (bl x.push.tail) :: L) := by
  unfold leg_output_push
  have e14 : (⟨a, 0, none⟩ : Addr).add 14 = ⟨a, 14, none⟩ := rfl
  have e15 : (⟨a, 14, none⟩ : Addr).add 1 = ⟨a, 15, none⟩ := rfl
  have c15 : ∀ {L' : As}, Cell ρ (pts a (legC c x si mi ri tl ct rs) :: L') ⟨a, 15, none⟩ (.slice tl.a tl.n tl.c) := Cell.here rfl
  rw [e14]
  refine Tri.pick 2 rfl (Tri.rowLen fun hl hc => Tri.pick 1 rfl ?_)
  refine Tri.drw (Tri.nn ?_)
  rw [e15]
  refine Tri.wld1 c15 fun w3 h3 => Tri.ldSl tl c15 (Tri.nn (Tri.ldP (Cell.here (i := 14) rfl) (Tri.nn ?_)))
  rw [e15]
  refine Tri.ldSl tl c15 ?_
  refine Tri.pick 2 rfl (Tri.bnd (ring_Put_spec (l := x.tail) Rd.row.tail htl hc (by omega)) ?_)
  rintro _ _ ⟨rfl, rfl⟩
  refine Tri.pick 1 rfl (Tri.agr1 h3 c15 ?_)
  generalize hk : min (x.out - x.ring.length) x.tail.length = k
  have hp : x.push = { x with ring := x.ring ++ x.tail.take k, tail := x.tail.drop k } := by simp only [Lm.push, hk]
  refine Tri.slS k tl.n tl.c (by rfl) (by rfl) (by rfl) (by omega) hc (Nat.le_refl _) fun tl' h' hc' => Tri.nn ?_
  have hn' := h'.n
  rw [e15]
  refine Tri.stB (i := 15) (l := [.slice tl'.a tl'.n tl'.c]) (by rfl) (by simp [legC]) rfl (Tri.nn ?_)
  have e2 : splice (legC c x si mi ri tl ct rs) 15 [.slice tl'.a tl'.n tl'.c] = legC c x si mi ri tl' ct rs := rfl
  rw [e15, e2]
  refine Tri.ldSl tl' (Cell.here (i := 15) rfl) (Tri.lt ?_)
  refine Tri.pick 2 rfl (Tri.weak (fun q hq => h'.row (by omega) (by omega) hq) ?_)
  have e3 : ((bl x.tail).drop (k * 1)).take ((tl.n - k) * 1) = bl (x.tail.drop k) := by
    rw [Nat.mul_one, Nat.mul_one, bl_drop, bl_take, List.take_of_length_le (by simp; omega)]
  rw [e3, hp]
  refine Tri.order [1, 1] rfl (Tri.ret ⟨?_, tl', by simp; omega, rfl⟩)
  have e4 : ((tl'.n : Int) == 0) = (tl'.n == 0) := beqI tl'.n 0
  rw [e4, hn', Bool.eq_iff_iff]
  simp only [beq_iff_eq, decide_eq_true_eq]
  rw [← List.length_eq_zero_iff, List.length_drop]; omega
/-! ### next -/
def drawNext (d : Nat) : Nat := (d * 1664525 + 1013904223) % 4294967296
theorem drawNext_eq (d : Nat) : IntKind.wrap .u32 (IntKind.wrap .u32 ((d : Int) * 1664525) + 1013904223) = (drawNext d : Nat) := by
  rw [wrU32, wrU32]
  unfold drawNext
  rw [Int.emod_add_emod, Int.natCast_emod, Int.natCast_add, Int.natCast_mul]
  rfl
def Lm.dress (x : Lm) (f : Fr) : Fr × Lm := if x.masks = true then ({ f with masked := true, key := keyOf (drawNext x.draw) }, { x with draw := drawNext x.draw }) else (f, x)
def Lm.next (x : Lm) : Option (Fr × Lm) :=
  match x.ctl with
  | f :: r => some (({ x with ctl := r } : Lm).dress f)
  | [] => match x.rest with
    | f :: r => some (({ x with rest := r } : Lm).dress f)
    | [] => none
theorem dress_eq (x : Lm) (f : Fr) : (x.dress f).2 = { x with draw := if x.masks = true then drawNext x.draw else x.draw } := by
  unfold Lm.dress
  generalize drawNext x.draw = d
  cases h : x.masks
  · obtain ⟨a1, a2, a3, a4, a5, a6, a7, a8, a9, b1, b2, b3, b4, b5⟩ := x
    simp only at h; subst h; simp
  · simp [h]
theorem dress_ctl (x : Lm) (f : Fr) : (x.dress f).2.ctl = x.ctl ∧ (x.dress f).2.rest = x.rest := by
  rw [dress_eq]; generalize drawNext x.draw = d; exact ⟨rfl, rfl⟩
theorem dress_spec {a : Nat} {c : Tapi_Config} {y : Lm} {si mi ri x1 x13 : Nat} {tl ct rs : Sl} {f : Fr} (hm : f.masked = false) (hd : y.draw < 4294967296) {C : Tapi_Frame × Bool → As → Prop}
    (h : C ((y.dress f).1.t, true) (pts a (legC c (y.dress f).2 si mi ri tl ct rs) :: L)) :
    Tri ρ (pts x13 (frc f) :: pts x1 (frc Fr.none) :: pts a (legC c y si mi ri tl ct rs) :: L)
      (nn (some (⟨a, 0, none⟩ : Addr)) fun x16 => ldB (x16.add 18) fun x17 =>
        bnd (if x17 = true then
            nn (some (⟨a, 0, none⟩ : Addr)) fun x24 => ldI .u32 (x24.add 19) fun x25 => nn (some (⟨a, 0, none⟩ : Addr)) fun x26 =>
            st (x26.add 19) (.int .u32 (IntKind.wrap .u32 ((IntKind.wrap .u32 (x25 * (1664525 : Int))) + (1013904223 : Int)))) <|
            nn (some (⟨a, 0, none⟩ : Addr)) fun x27 => ldI .u32 (x27.add 19) fun x28 => bnd (mask_Key K x28) fun x29 =>
            st ((⟨x13, 0, none⟩ : Addr).add 2) (.bool true) <| st ((⟨x13, 0, none⟩ : Addr).add 3) (.agg (Agg.cells x29).toArray) <| ret ()
          else ret ()) fun (s30 : Unit) =>
        ldG (α := Tapi_Frame) ⟨x13, 0, none⟩ fun x31 => st ⟨x1, 0, none⟩ (.agg (Agg.cells x31).toArray) <| ldG (α := Tapi_Frame) ⟨x1, 0, none⟩ fun r32 => ret (r32, true)) C := by
  have fin : ∀ (g : Fr) (z : Lm), y.dress f = (g, z) → Tri ρ (pts x13 (frc g) :: pts x1 (frc Fr.none) :: pts a (legC c z si mi ri tl ct rs) :: L)
      (ldG (α := Tapi_Frame) ⟨x13, 0, none⟩ fun x31 => st ⟨x1, 0, none⟩ (.agg (Agg.cells x31).toArray) <| ldG (α := Tapi_Frame) ⟨x1, 0, none⟩ fun r32 => ret (r32, true)) C := by
    intro g z hg
    rw [hg] at h
    refine Tri.ldG g.t rfl (Cells.here (i := 0) (by simp [Fr.cells, frc]) (by rfl)) ?_
    refine Tri.drop ?_
    refine Tri.stB (l := frc g) (by rfl) (by simp [frc]) rfl ?_
    refine Tri.ldG g.t rfl (Cells.here (i := 0) (by simp [Fr.cells, frc, splice]) (by rfl)) ?_
    exact Tri.drop (Tri.ret h)
  refine Tri.nn (Tri.ldB (Cell.here (i := 18) rfl).tail.tail ?_)
  cases hmk : y.masks with
  | false =>
    simp only [Bool.false_eq_true, if_false, bnd_ret]
    exact fin f y (by simp [Lm.dress, hmk])
  | true =>
    simp only [if_true, bnd_ret, bnd_bnd, bnd_ite, bnd_lt, bnd_ldB, bnd_ldI, bnd_ldS, bnd_ldP, bnd_ldSl, bnd_ldG, bnd_nn, bnd_ixA, bnd_st, bnd_drw, bnd_strOf, bnd_new, bnd_slS, bnd_slA, bnd_slStr, bnd_app, bnd_appS, bnd_appT, bnd_appZ, bnd_chk, bnd_mk, bnd_cpy, bnd_wld, bnd_agr, bnd_bytesOf, bnd_drw2, bnd_mrk, bnd_fail, sumK_inl, sumK_inr, bnd_inr]
    refine Tri.nn (Tri.ldI (Cell.here (i := 19) rfl).tail.tail (Tri.nn ?_))
    rw [drawNext_eq]
    have hz : y.dress f = ({ f with masked := true, key := keyOf (drawNext y.draw) }, { y with draw := drawNext y.draw }) := by simp only [Lm.dress, hmk, if_true]
    generalize drawNext y.draw = d at hz ⊢
    refine Tri.pick 2 rfl ?_
    refine Tri.stB (i := 19) (l := [.int .u32 (d : Int)]) (by rfl) (by simp [legC]) rfl (Tri.nn ?_)
    have e2 : splice (legC c y si mi ri tl ct rs) 19 [.int .u32 (d : Int)] = legC c { y with draw := d } si mi ri tl ct rs := rfl
    rw [e2]
    refine Tri.ldI (Cell.here (i := 19) rfl) ?_
    refine Tri.bnd mask_Key_spec ?_
    rintro _ _ ⟨rfl, rfl⟩
    generalize keyOf d = k at hz ⊢
    refine Tri.pick 1 rfl ?_
    refine Tri.stB (i := 2) (l := [.bool true]) (by rfl) (by simp [frc]) rfl ?_
    refine Tri.stB (i := 3) (l := bl k.l) (by rfl) (by simp [frc, splice, bl, Key.l]) rfl ?_
    have e3 : splice (splice (frc f) 2 [.bool true]) 3 (bl k.l) = frc { f with masked := true, key := k } := rfl
    rw [e3]
    exact Tri.order [0, 1] rfl (fin _ _ hz)
theorem next_spec {a : Nat} {c : Tapi_Config} {x : Lm} {si mi ri : Nat} {tl ct rs : Sl} (hok : x.Ok) (hct : ct.n = x.ctl.length) (hrs : rs.n = x.rest.length) :
    Tri ρ (pts a (legC c x si mi ri tl ct rs) :: row ct 8 (frl x.ctl) :: row rs 8 (frl x.rest) :: L) (leg_Leg_next K (some ⟨a, 0, none⟩))
      (fun r L' => match x.next with
        | none => r = (Fr.none.t, false) ∧ L' = pts a (legC c x si mi ri tl ct rs) :: row ct 8 (frl x.ctl) :: row rs 8 (frl x.rest) :: L
        | some (f, y) => r = (f.t, true) ∧ ∃ ct' rs' : Sl, ct'.n = y.ctl.length ∧ rs'.n = y.rest.length ∧ L' = pts a (legC c y si mi ri tl ct' rs') :: row ct' 8 (frl y.ctl) :: row rs' 8 (frl y.rest) :: L) := by
  unfold leg_Leg_next
  rw [frc_zero]
  refine Tri.new fun x1 => Tri.nn (Tri.nn (Tri.ldSl ct (Cell.here (i := 16) rfl).tail ?_))
  have ec : ((ct.n : Int) == 0) = decide (x.ctl = []) := by
    rw [show ((ct.n : Int) == 0) = (ct.n == 0) from beqI ct.n 0, Bool.eq_iff_iff]
    simp only [beq_iff_eq, decide_eq_true_eq, hct, List.length_eq_zero_iff]
  rw [ec]
  cases hc : x.ctl with
  | nil =>
    simp only [decide_true, if_true, bnd_nn, bnd_ret]
    have e17 : (⟨a, 0, none⟩ : Addr).add 17 = ⟨a, 17, none⟩ := rfl
    refine Tri.nn ?_
    rw [e17]
    refine Tri.ldSl rs (Cell.here (i := 17) rfl).tail ?_
    have er : ((rs.n : Int) == 0) = decide (x.rest = []) := by
      rw [show ((rs.n : Int) == 0) = (rs.n == 0) from beqI rs.n 0, Bool.eq_iff_iff]
      simp only [beq_iff_eq, decide_eq_true_eq, hrs, List.length_eq_zero_iff]
    rw [er]
    cases hr : x.rest with
    | nil =>
      simp only [decide_true, if_true]
      have hn : x.next = none := by simp [Lm.next, hc, hr]
      rw [none_t]
      refine Tri.stB (l := frc Fr.none) (by rfl) (by simp [frc]) rfl ?_
      refine Tri.ldG Fr.none.t rfl (Cells.here (i := 0) (by simp [Fr.cells, frc, splice]) (by rfl)) ?_
      refine Tri.drop (Tri.ret ?_)
      rw [hn]; exact ⟨rfl, rfl⟩
    | cons f r =>
      simp only [List.cons_ne_nil, reduceCtorEq, decide_false, Bool.false_eq_true, if_false]
      refine Tri.ldSl rs (Cell.here (i := 17) rfl).tail ?_
      have hg := frl_get (f :: r) 0 (by simp)
      have hrn : rs.n = r.length + 1 := by rw [hrs, hr]; rfl
      refine Tri.ixA 0 (l := frl (f :: r)) Rd.row.tail.tail.tail rfl (by omega) (by simp [frl, frc]) fun x11 h11 => ?_
      refine Tri.ldG f.t rfl (h11.cells Rd.row.tail.tail.tail (by omega) hg rfl) ?_
      refine Tri.new fun x13 => ?_
      refine Tri.stB (l := frc f) (by rfl) (by simp [frc]) rfl ?_
      have e0 : splice (frc Fr.none) 0 (frc f) = frc f := rfl
      rw [e0]
      refine Tri.ldSl rs (Cell.here (i := 17) rfl).tail.tail ?_
      refine Tri.order [4] rfl (Tri.rowLen fun _ hcc => ?_)
      refine Tri.slS 1 rs.n rs.c (by rfl) (by rfl) (by rfl) (by omega) hcc (Nat.le_refl _) fun rs' h' hc' => ?_
      have hn' := h'.n
      refine Tri.weak (fun q hq => h'.row (by omega) (by omega) hq) ?_
      have e3 : ((frl (f :: r)).drop (1 * 8)).take ((rs.n - 1) * 8) = frl r := by
        have : frl (f :: r) = frc f ++ frl r := by simp [frl]
        rw [this, Nat.one_mul, List.drop_left' (frc_len f), List.take_of_length_le (by rw [frl_length]; omega)]
      rw [e3]
      refine Tri.order [3] rfl ?_
      refine Tri.stB (i := 17) (l := [.slice rs'.a rs'.n rs'.c]) (by rfl) (by simp [legC]) rfl ?_
      have e2 : splice (legC c x si mi ri tl ct rs) 17 [.slice rs'.a rs'.n rs'.c] = legC c { x with rest := r } si mi ri tl ct rs' := rfl
      rw [e2]
      refine Tri.order [2, 2, 0, 1] rfl ?_
      have hf : okF f := hok.rest f (by rw [hr]; simp)
      refine dress_spec (y := { x with rest := r }) hf.2.2 hok.draw ?_
      have hn : x.next = some (({ x with rest := r } : Lm).dress f) := by simp [Lm.next, hc, hr]
      rw [hn]
      obtain ⟨d1, d2⟩ := dress_ctl { x with rest := r } f
      generalize ({ x with rest := r } : Lm).dress f = g at d1 d2 ⊢
      obtain ⟨g1, g2⟩ := g
      dsimp only at d1 d2 ⊢
      refine ⟨rfl, ct, rs', ?_, ?_, ?_⟩
      · rw [d1, hct]
      · rw [d2, hn']; omega
      · rw [d1, d2, hc]
  | cons f r =>
    simp only [List.cons_ne_nil, reduceCtorEq, decide_false, Bool.false_eq_true, if_false, bnd_ret]
    have e16 : (⟨a, 0, none⟩ : Addr).add 16 = ⟨a, 16, none⟩ := rfl
    rw [e16]
    refine Tri.ldSl ct (Cell.here (i := 16) rfl).tail ?_
    have hcn : ct.n = r.length + 1 := by rw [hct, hc]; rfl
    have hd0 : ((ct.n : Int) == 0) = false := by simp; omega
    rw [hd0]
    simp only [Bool.false_eq_true, if_false]
    refine Tri.ldSl ct (Cell.here (i := 16) rfl).tail ?_
    have hg := frl_get (f :: r) 0 (by simp)
    refine Tri.ixA 0 (l := frl (f :: r)) Rd.row.tail.tail rfl (by omega) (by simp [frl, frc]) fun x11 h11 => ?_
    refine Tri.ldG f.t rfl (h11.cells Rd.row.tail.tail (by omega) hg rfl) ?_
    refine Tri.new fun x13 => ?_
    refine Tri.stB (l := frc f) (by rfl) (by simp [frc]) rfl ?_
    have e0 : splice (frc Fr.none) 0 (frc f) = frc f := rfl
    rw [e0]
    refine Tri.ldSl ct (Cell.here (i := 16) rfl).tail.tail ?_
    refine Tri.order [3] rfl (Tri.rowLen fun _ hcc => ?_)
    refine Tri.slS 1 ct.n ct.c (by rfl) (by rfl) (by rfl) (by omega) hcc (Nat.le_refl _) fun ct' h' hc' => ?_
    have hn' := h'.n
    refine Tri.weak (fun q hq => h'.row (by omega) (by omega) hq) ?_
    have e3 : ((frl (f :: r)).drop (1 * 8)).take ((ct.n - 1) * 8) = frl r := by
      have : frl (f :: r) = frc f ++ frl r := by simp [frl]
      rw [this, Nat.one_mul, List.drop_left' (frc_len f), List.take_of_length_le (by rw [frl_length]; omega)]
    rw [e3]
    refine Tri.order [3] rfl ?_
    refine Tri.stB (i := 16) (l := [.slice ct'.a ct'.n ct'.c]) (by rfl) (by simp [legC]) rfl ?_
    have e2 : splice (legC c x si mi ri tl ct rs) 16 [.slice ct'.a ct'.n ct'.c] = legC c { x with ctl := r } si mi ri tl ct' rs := rfl
    rw [e2]
    refine Tri.order [2, 2] rfl ?_
    have hf : okF f := hok.ctl f (by rw [hc]; simp)
    refine dress_spec (y := { x with ctl := r }) hf.2.2 hok.draw ?_
    have hn : x.next = some (({ x with ctl := r } : Lm).dress f) := by simp [Lm.next, hc]
    rw [hn]
    obtain ⟨d1, d2⟩ := dress_ctl { x with ctl := r } f
    generalize ({ x with ctl := r } : Lm).dress f = g at d1 d2 ⊢
    obtain ⟨g1, g2⟩ := g
    dsimp only at d1 d2 ⊢
    refine ⟨rfl, ct', rs, ?_, ?_, ?_⟩
    · rw [d1, hn']; omega
    · rw [d2, hrs]
    · rw [d1, d2]
/-! ### move -/
def Lm.moveF : Nat → Lm → Lm
  | 0, x => x
  | k + 1, x => if x.push.tail = [] then (match x.push.next with
      | none => x.push
      | some (f, y) => Lm.moveF k { y with tail := frPut f }) else x.push
def Lm.move (x : Lm) : Lm := Lm.moveF (x.ctl.length + x.rest.length + 1) x
theorem push_same (x : Lm) : x.push.ctl = x.ctl ∧ x.push.rest = x.rest := ⟨rfl, rfl⟩
theorem next_ctl {x : Lm} {f : Fr} {r : List Fr} (hc : x.ctl = f :: r) : x.next = some (({ x with ctl := r } : Lm).dress f) := by simp [Lm.next, hc]
theorem next_rest {x : Lm} {f : Fr} {r : List Fr} (hc : x.ctl = []) (hr : x.rest = f :: r) : x.next = some (({ x with rest := r } : Lm).dress f) := by simp [Lm.next, hc, hr]
theorem next_none {x : Lm} (hc : x.ctl = []) (hr : x.rest = []) : x.next = none := by simp [Lm.next, hc, hr]
theorem next_cases (x : Lm) : (x.ctl = [] ∧ x.rest = [] ∧ x.next = none) ∨ (∃ f r, x.ctl = f :: r ∧ x.next = some (({ x with ctl := r } : Lm).dress f)) ∨ (∃ f r, x.ctl = [] ∧ x.rest = f :: r ∧ x.next = some (({ x with rest := r } : Lm).dress f)) := by
  have nc : ∀ l : List Fr, l = [] ∨ ∃ f r, l = f :: r := fun l => by cases l <;> simp
  rcases nc x.ctl with hc | ⟨f, r, hc⟩
  · rcases nc x.rest with hr | ⟨f, r, hr⟩
    · exact .inl ⟨hc, hr, next_none hc hr⟩
    · exact .inr (.inr ⟨f, r, hc, hr, next_rest hc hr⟩)
  · exact .inr (.inl ⟨f, r, hc, next_ctl hc⟩)
theorem next_len {x : Lm} {f : Fr} {y : Lm} (h : x.next = some (f, y)) : y.ctl.length + y.rest.length + 1 = x.ctl.length + x.rest.length := by
  rcases next_cases x with ⟨h1, h2, h3⟩ | ⟨g, r, h1, h3⟩ | ⟨g, r, h1, h2, h3⟩
  · rw [h3] at h; simp at h
  · rw [h3] at h
    simp only [Option.some.injEq] at h
    have := dress_ctl { x with ctl := r } g
    rw [h] at this
    simp only at this
    rw [this.1, this.2, h1]; simp; omega
  · rw [h3] at h
    simp only [Option.some.injEq] at h
    have := dress_ctl { x with rest := r } g
    rw [h] at this
    simp only at this
    rw [this.1, this.2, h1, h2]; simp
theorem okF_chk {x : Lm} {f : Fr} (h : okF f) : chkF (x.dress f).1 = 0 := by
  obtain ⟨h1, h2, h3⟩ := h
  have key : formF (x.dress f).1 = true ∧ (x.dress f).1.data.length ≤ 65536 := by
    unfold Lm.dress
    generalize drawNext x.draw = d
    cases x.masks with
    | true =>
      refine ⟨?_, h2⟩
      simp only [formF, Bool.and_eq_true] at h1
      simp [formF, h1.1.1, h1.1.2]
    | false => exact ⟨h1, h2⟩
  simp only [chkF, key.1]
  simp; omega
theorem frPut_length (f : Fr) (h : f.data.length ≤ 65536) : (frPut f).length ≤ 65550 := by
  have h1 := lenB_length f.data.length
  have h2 : ∀ l : List UInt8, (addHi l).length = l.length := fun l => by cases l <;> rfl
  unfold frPut
  split
  · simp only [List.length_cons, List.length_append, h2, turn_length, Key.l, List.length_nil]; omega
  · simp only [List.length_cons, List.length_append]; omega
theorem Lm.Ok.push {x : Lm} (h : x.Ok) : x.push.Ok := ⟨h.message, h.frame, h.most, h.mm, h.draw, h.ctl, h.rest, by have := h.tail; simp [Lm.push]; omega⟩
theorem Lm.Ok.dress {x : Lm} (h : x.Ok) (f : Fr) : (x.dress f).2.Ok := by
  rw [dress_eq]
  refine ⟨h.message, h.frame, h.most, h.mm, ?_, h.ctl, h.rest, h.tail⟩
  show (if x.masks = true then drawNext x.draw else x.draw) < 4294967296
  split
  · unfold drawNext; exact Nat.mod_lt _ (by decide)
  · exact h.draw
theorem Lm.Ok.next {x : Lm} (h : x.Ok) {f : Fr} {y : Lm} (hn : x.next = some (f, y)) : y.Ok ∧ chkF f = 0 ∧ f.data.length ≤ 65536 := by
  have dl : ∀ (z : Lm) (g : Fr), (z.dress g).1.data = g.data := fun z g => by unfold Lm.dress; generalize drawNext z.draw = d; cases z.masks <;> rfl
  rcases next_cases x with ⟨h1, h2, h3⟩ | ⟨g, r, h1, h3⟩ | ⟨g, r, h1, h2, h3⟩
  · rw [h3] at hn; simp at hn
  · rw [h3] at hn
    simp only [Option.some.injEq] at hn
    have hg : okF g := h.ctl g (by rw [h1]; simp)
    have hx : ({ x with ctl := r } : Lm).Ok := ⟨h.message, h.frame, h.most, h.mm, h.draw, fun q hq => h.ctl q (by rw [h1]; exact List.mem_cons_of_mem _ hq), h.rest, h.tail⟩
    have a1 := hx.dress g
    have a2 := okF_chk (x := { x with ctl := r }) hg
    have a3 := dl { x with ctl := r } g
    rw [hn] at a1 a2 a3
    exact ⟨a1, a2, by rw [a3]; exact hg.2.1⟩
  · rw [h3] at hn
    simp only [Option.some.injEq] at hn
    have hg : okF g := h.rest g (by rw [h2]; simp)
    have hx : ({ x with rest := r } : Lm).Ok := ⟨h.message, h.frame, h.most, h.mm, h.draw, h.ctl, fun q hq => h.rest q (by rw [h2]; exact List.mem_cons_of_mem _ hq), h.tail⟩
    have a1 := hx.dress g
    have a2 := okF_chk (x := { x with rest := r }) hg
    have a3 := dl { x with rest := r } g
    rw [hn] at a1 a2 a3
    exact ⟨a1, a2, by rw [a3]; exact hg.2.1⟩
/-- what moving on leaves alone -/
structure Alike (x y : Lm) : Prop where
  message : y.message = x.message
  frame : y.frame = x.frame
  out : y.out = x.out
  masks : y.masks = x.masks
  inn : y.inn = x.inn
  m : y.m = x.m
  sent : y.sent = x.sent
  got : y.got = x.got
  wrong : y.wrong = x.wrong
theorem Alike.refl (x : Lm) : Alike x x := ⟨rfl, rfl, rfl, rfl, rfl, rfl, rfl, rfl, rfl⟩
theorem Alike.trans {x y z : Lm} (h : Alike x y) (k : Alike y z) : Alike x z := ⟨k.1.trans h.1, k.2.trans h.2, k.3.trans h.3, k.4.trans h.4, k.5.trans h.5, k.6.trans h.6, k.7.trans h.7, k.8.trans h.8, k.9.trans h.9⟩
theorem alike_push (x : Lm) : Alike x x.push := ⟨rfl, rfl, rfl, rfl, rfl, rfl, rfl, rfl, rfl⟩
theorem alike_dress (x : Lm) (f : Fr) : Alike x (x.dress f).2 := by rw [dress_eq]; exact ⟨rfl, rfl, rfl, rfl, rfl, rfl, rfl, rfl, rfl⟩
theorem alike_next {x y : Lm} {f : Fr} (hn : x.next = some (f, y)) : Alike x y := by
  rcases next_cases x with ⟨h1, h2, h3⟩ | ⟨g, r, h1, h3⟩ | ⟨g, r, h1, h2, h3⟩
  · rw [h3] at hn; simp at hn
  · rw [h3] at hn
    simp only [Option.some.injEq] at hn
    have := alike_dress { x with ctl := r } g
    rw [hn] at this
    exact ⟨this.1, this.2, this.3, this.4, this.5, this.6, this.7, this.8, this.9⟩
  · rw [h3] at hn
    simp only [Option.some.injEq] at hn
    have := alike_dress { x with rest := r } g
    rw [hn] at this
    exact ⟨this.1, this.2, this.3, this.4, this.5, this.6, this.7, this.8, this.9⟩
theorem next_ring {x y : Lm} {f : Fr} (hn : x.next = some (f, y)) : y.ring = x.ring := by
  rcases next_cases x with ⟨h1, h2, h3⟩ | ⟨g, r, h1, h3⟩ | ⟨g, r, h1, h2, h3⟩
  · rw [h3] at hn; simp at hn
  · rw [h3] at hn
    simp only [Option.some.injEq] at hn
    have := dress_eq { x with ctl := r } g
    rw [hn] at this
    simp only at this
    rw [this]
  · rw [h3] at hn
    simp only [Option.some.injEq] at hn
    have := dress_eq { x with rest := r } g
    rw [hn] at this
    simp only at this
    rw [this]
theorem moveF_ok : ∀ {k : Nat} {x : Lm}, x.Ok → (Lm.moveF k x).Ok ∧ Alike x (Lm.moveF k x)
  | 0, x, h => ⟨h, Alike.refl x⟩
  | k + 1, x, h => by
    unfold Lm.moveF
    split
    · cases hn : x.push.next with
      | none => exact ⟨h.push, alike_push x⟩
      | some q =>
        obtain ⟨f, y⟩ := q
        obtain ⟨h1, h2, h3⟩ := h.push.next hn
        have hl := frPut_length f h3
        have hy : ({ y with tail := frPut f } : Lm).Ok := ⟨h1.message, h1.frame, h1.most, h1.mm, h1.draw, h1.ctl, h1.rest, by show (frPut f).length ≤ _; omega⟩
        obtain ⟨a1, a2⟩ := moveF_ok (k := k) hy
        refine ⟨a1, (alike_push x).trans ((alike_next hn).trans (Alike.trans ?_ a2))⟩
        exact ⟨rfl, rfl, rfl, rfl, rfl, rfl, rfl, rfl, rfl⟩
    · exact ⟨h.push, alike_push x⟩
theorem move_ok {x : Lm} (h : x.Ok) : x.move.Ok ∧ Alike x x.move := moveF_ok h
theorem move_spec {a : Nat} {c : Tapi_Config} {x : Lm} {si mi ri : Nat} {tl ct rs : Sl} (hK : KBig K) (hok : x.Ok) (htl : tl.n = x.tail.length) (hct : ct.n = x.ctl.length) (hrs : rs.n = x.rest.length) (hb : x.ctl.length + x.rest.length ≤ 1099511627776) :
    Tri ρ (pts a (legC c x si mi ri tl ct rs) :: ringI ri x.out x.ring :: row tl 1 (bl x.tail) :: row ct 8 (frl x.ctl) :: row rs 8 (frl x.rest) :: L) (leg_Leg_move K (some ⟨a, 0, none⟩))
      (fun _ L' => ∃ tl' ct' rs' : Sl, tl'.n = x.move.tail.length ∧ ct'.n = x.move.ctl.length ∧ rs'.n = x.move.rest.length ∧
        L' = pts a (legC c x.move si mi ri tl' ct' rs') :: ringI ri x.move.out x.move.ring :: row tl' 1 (bl x.move.tail) :: row ct' 8 (frl x.move.ctl) :: row rs' 8 (frl x.move.rest) :: L) := by
  unfold leg_Leg_move
  refine Tri.loopN (I := fun n _ L' => ∃ (y : Lm) (tl ct rs : Sl), n = y.ctl.length + y.rest.length ∧ y.Ok ∧ tl.n = y.tail.length ∧ ct.n = y.ctl.length ∧ rs.n = y.rest.length ∧ x.move = Lm.moveF (n + 1) y ∧
      L' = pts a (legC c y si mi ri tl ct rs) :: ringI ri y.out y.ring :: row tl 1 (bl y.tail) :: row ct 8 (frl y.ctl) :: row rs 8 (frl y.rest) :: L) ?_ (x.ctl.length + x.rest.length) (by unfold KBig at hK; omega) ⟨x, tl, ct, rs, rfl, hok, htl, hct, hrs, rfl, rfl⟩
  rintro again n _ L' ⟨y, tl, ct, rs, rfl, hy, h1, h2, h3, h4, rfl⟩ ih
  unfold leg_Leg_move_l0
  rw [frc_zero]
  refine Tri.nn (Tri.bnd (push_spec h1 hy.tail) ?_)
  rintro _ _ ⟨rfl, tl', h5, rfl⟩
  unfold Lm.moveF at h4
  by_cases ht : y.push.tail = []
  · rw [if_pos ht] at h4
    rw [decide_eq_true ht]
    simp only [if_true]
    refine Tri.order [0, 2, 2] rfl (Tri.bnd (next_spec (x := y.push) hy.push h2 h3) ?_)
    intro r L' hr
    cases hn : y.push.next with
    | none =>
      rw [hn] at hr h4
      obtain ⟨rfl, rfl⟩ := hr
      refine Tri.new fun x13 => ?_
      refine Tri.stB (l := frc Fr.none) (by rfl) (by simp [frc]) rfl ?_
      simp only [Bool.not_false, if_true]
      refine Tri.drop (Tri.order [0, 2, 2] rfl (Tri.ret ⟨tl', ct, rs, ?_⟩))
      rw [h4]; exact ⟨h5, h2, h3, rfl⟩
    | some q =>
      obtain ⟨f, z⟩ := q
      rw [hn] at hr h4
      obtain ⟨rfl, ct', rs', h6, h7, rfl⟩ := hr
      obtain ⟨b1, b2, b3⟩ := hy.push.next hn
      have hal := alike_next hn
      have hlen := next_len hn
      have hfl := frPut_length f b3
      simp only [Bool.not_true, Bool.false_eq_true, if_false] at h4 ⊢
      refine Tri.new fun x13 => ?_
      refine Tri.stB (l := frc f) (by rfl) (by simp [frc]) rfl ?_
      have e0 : splice (frc Fr.none) 0 (frc f) = frc f := rfl
      rw [e0]
      refine Tri.ldG f.t rfl (Cells.here (i := 0) (by simp [Fr.cells, frc]) (by rfl)) (Tri.drop ?_)
      refine Tri.bnd (frame_Put_spec hK b2) ?_
      rintro x15 _ ⟨c1, c2, rfl⟩
      refine Tri.nn (Tri.pick 1 rfl ?_)
      have e15 : (((⟨a, 0, none⟩ : Addr).add 14).add 1) = ⟨a, 15, none⟩ := rfl
      rw [e15]
      refine Tri.stB (i := 15) (l := [.slice x15.1.a x15.1.n x15.1.c]) (by rfl) (by simp [legC]) rfl ?_
      have e2 : splice (legC c z si mi ri tl' ct' rs') 15 [.slice x15.1.a x15.1.n x15.1.c] = legC c { z with tail := frPut f } si mi ri x15.1 ct' rs' := rfl
      rw [e2]
      refine Tri.order [5, 0, 3] rfl (Tri.drop ?_)
      have hz : ({ z with tail := frPut f } : Lm).Ok := ⟨b1.message, b1.frame, b1.most, b1.mm, b1.draw, b1.ctl, b1.rest, by show (frPut f).length ≤ _; omega⟩
      have hring : ringI ri y.out y.push.ring = ringI ri z.out z.ring := by rw [next_ring hn, hal.out]; rfl
      rw [hring]
      refine ih _ _ _ ?_ ⟨{ z with tail := frPut f }, x15.1, ct', rs', rfl, hz, c2, h6, h7, ?_, rfl⟩
      · show z.ctl.length + z.rest.length < _
        have := push_same y
        rw [this.1, this.2] at hlen; omega
      · rw [h4]
        have := push_same y
        rw [this.1, this.2] at hlen
        show Lm.moveF (y.ctl.length + y.rest.length) _ = Lm.moveF (z.ctl.length + z.rest.length + 1) _
        rw [hlen]
  · rw [if_neg ht] at h4
    rw [decide_eq_false ht]
    simp only [Bool.false_eq_true, if_false]
    refine Tri.ret ⟨tl', ct, rs, ?_⟩
    rw [h4]; exact ⟨h5, h2, h3, rfl⟩
end Go.Proofs.YtjdnjlnfcbaokaaGreat

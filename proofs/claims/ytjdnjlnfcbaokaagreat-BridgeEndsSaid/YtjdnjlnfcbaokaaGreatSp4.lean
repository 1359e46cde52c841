/-
  SPECS, 4: frame.Get. Own work.
-/
import Derived.Test.YtjdnjlnfcbaokaaGreatSp3
set_option linter.unusedVariables false
set_option linter.unusedSimpArgs false
namespace Go.Proofs.YtjdnjlnfcbaokaaGreat
open Go Go.Lg
variable {α β σ τ : Type} {ρ : Hp} {L M : As} {K : Nat}

def keyAt (b : List UInt8) (i : Nat) : Key := ⟨b.getD i 0, b.getD (i + 1) 0, b.getD (i + 2) 0, b.getD (i + 3) 0⟩
/-- the frame that bytes begin with, how many bytes it has, the error -/
def frGet (b : List UInt8) (most : Nat) : Fr × Nat × Nat :=
  match b with
  | [] => (Fr.none, 0, 90)
  | b0 :: r =>
    let op := b0.toNat % 16
    let fin := decide (128 ≤ b0.toNat)
    if b0.toNat / 16 % 8 ≠ 0 ∨ knownOp op = false ∨ (ctlOp op = true ∧ fin = false) ∨ (ctlOp op = true ∧ 125 < (r.headD 0).toNat % 128) then (Fr.none, 0, 91)
    else
      let g := getLen r
      if g.2.2 = 81 then (Fr.none, 0, 91) else if g.2.2 ≠ 0 then (Fr.none, 0, 90) else if most < g.1 then (Fr.none, 0, 92) else
      let masked := decide (128 ≤ (r.headD 0).toNat)
      let at0 := 1 + g.2.1
      if masked = true ∧ b.length < at0 + 4 then (Fr.none, 0, 90) else
      let at1 := if masked then at0 + 4 else at0
      let key := if masked then keyAt b at0 else Key.zero
      if b.length < at1 + g.1 then (Fr.none, 0, 90) else
      (⟨fin, op, masked, key, turn key 0 ((b.drop at1).take g.1)⟩, at1 + g.1, 0)
theorem keyAt_l (b : List UInt8) (i : Nat) (h : i + 4 ≤ b.length) : (b.drop i).take (4 * 1) = (keyAt b i).l := by
  have e : ∀ j, j < 4 → b[i + j]? = some (b.getD (i + j) 0) := fun j hj => by
    rw [List.getElem?_eq_getElem (by omega), List.getD_eq_getElem?_getD, List.getElem?_eq_getElem (by omega)]; rfl
  apply List.ext_getElem?
  intro j
  rw [List.getElem?_take, List.getElem?_drop]
  by_cases hj : j < 4 * 1
  · rw [if_pos hj, e j (by omega)]
    simp only [Key.l, keyAt]
    match j, hj with
    | 0, _ => rfl
    | 1, _ => rfl
    | 2, _ => rfl
    | 3, _ => rfl
  · rw [if_neg hj, List.getElem?_eq_none (by simp [Key.l]; omega)]
theorem getLen_bound (l : List UInt8) : (getLen l).1 < 18446744073709551616 ∧ (getLen l).2.1 ≤ 9 ∧ ((getLen l).2.2 = 0 → 1 ≤ (getLen l).2.1 ∧ (getLen l).2.1 ≤ l.length) := by
  cases l with
  | nil => exact ⟨by decide, by decide, by decide⟩
  | cons b r =>
    simp only [getLen]
    by_cases h1 : b.toNat % 128 < 126
    · simp only [h1, if_true]
      exact ⟨by omega, by omega, fun _ => ⟨by omega, by simp⟩⟩
    · simp only [h1, if_false]
      generalize hs : (if b.toNat % 128 = 126 then 2 else 8) = size
      have hs8 : size ≤ 8 := by subst hs; split <;> omega
      generalize (if b.toNat % 128 = 126 then 126 else 65536) = lo
      generalize (if b.toNat % 128 = 126 then 65535 else 9223372036854775807) = hi
      split
      · exact ⟨by show (0 : Nat) < _; omega, by show (0 : Nat) ≤ _; omega, fun h => by have h' : (81 : Nat) = 0 := h; omega⟩
      · split
        · exact ⟨by show (0 : Nat) < _; omega, by show (0 : Nat) ≤ _; omega, fun h => by have h' : (80 : Nat) = 0 := h; omega⟩
        · rename_i h2 h3
          refine ⟨?_, by show 1 + size ≤ 9; omega, fun _ => ⟨by show 1 ≤ 1 + size; omega, ?_⟩⟩
          · have h4 := valB_lt (r.take size)
            have h5 : 256 ^ (r.take size).length ≤ 256 ^ 8 := Nat.pow_le_pow_right (by omega) (by simp; omega)
            show valB (r.take size) < _
            omega
          · simp only [List.length_take] at h3
            show 1 + size ≤ _
            simp only [List.length_cons]; omega
theorem retFr {b : Nat} {cs : List Value} {n e : Int} {f : Fr} {t : Tapi_Frame} {C : Tapi_Frame × Int × Int → As → Prop} (ht : t = f.t) (hcs : cs.length = 8) (hb : C (f.t, n, e) L) :
    Tri ρ (pts b cs :: L) (st ⟨b, 0, none⟩ (.agg (Agg.cells t).toArray) <| ldG (α := Tapi_Frame) ⟨b, 0, none⟩ fun r => ret (r, n, e)) C := by
  subst ht
  refine Tri.stB (l := Agg.cells f.t) (by rfl) (by rw [hcs]; simp [Fr.cells]) rfl ?_
  refine Tri.ldG f.t rfl (Cells.here (by simp [splice, Fr.cells]) ?_) ?_
  · simp [splice]
  · exact Tri.drop (Tri.ret hb)
theorem none_t : Tapi_Frame.mk false (0 : Int) false (0 : Int) (0 : Int) (0 : Int) (0 : Int) (ByteArray.mk #[]) = Fr.none.t := rfl
/-- cells of a frame -/
def frc (f : Fr) : List Value := [.bool f.fin, .int .i64 f.op, .bool f.masked, byt f.key.e0, byt f.key.e1, byt f.key.e2, byt f.key.e3, .string (ba f.data)]
theorem frc_zero : ([.bool false, .int .i64 (0 : Int), .bool false, .int .u8 (0 : Int), .int .u8 (0 : Int), .int .u8 (0 : Int), .int .u8 (0 : Int), .string (ByteArray.mk #[])] : List Value) = frc Fr.none := rfl
theorem frc_len (f : Fr) : (frc f).length = 8 := rfl
theorem frame_Get_spec {s : Sl} {l : List UInt8} {most : Nat} (hK : KBig K) (hr : Rd ρ L s 1 (bl l)) (hn : s.n = l.length) (hc : s.n ≤ s.c) (hb : l.length ≤ 281474976710656) (hm : most < 4611686018427387904) :
    Tri ρ L (frame_Get K s most) (fun r L' => r = ((frGet l most).1.t, ((frGet l most).2.1 : Int), ((frGet l most).2.2 : Int)) ∧ L' = L) := by
  unfold frame_Get
  rw [frc_zero]
  refine Tri.new fun b1 => ?_
  cases l with
  | nil =>
    have h0 : s.n = 0 := by simpa using hn
    refine Tri.ite ?_ ?_
    · intro _
      rw [none_t]
      exact retFr rfl (frc_len _) ⟨rfl, rfl⟩
    · intro h; simp [h0] at h
  | cons b0 r =>
    have hn' : s.n = r.length + 1 := by simpa using hn
    have hrl : r.length + 1 ≤ 281474976710656 := by simpa using hb
    have hne : bl (b0 :: r) ≠ [] := by simp [bl]
    have c0 : ∀ {L' : As} {x : Addr}, Spot ρ s 1 0 x → Rd ρ L' s 1 (bl (b0 :: r)) → Cell ρ L' x (byt b0) := fun hx h => hx.cell h rfl (by omega)
    refine Tri.ite ?_ ?_
    · intro h; simp [hn'] at h; omega
    intro _
    refine Tri.drw ?_
    refine Tri.ixA 0 hr.tail rfl (by omega) hne fun x3 h3 => ?_
    refine Tri.wld1 (c0 h3 hr.tail) fun w5 hw5 => ?_
    refine Tri.ldI (c0 h3 hr.tail) ?_
    refine Tri.ixA 0 hr.tail rfl (by omega) hne fun x6 h6 => ?_
    refine Tri.wld1 (c0 h6 hr.tail) fun w8 hw8 => ?_
    refine Tri.ldI (c0 h6 hr.tail) ?_
    refine Tri.new fun b9 => ?_
    refine Tri.agr1 hw5 (c0 h3 hr.tail.tail) ?_
    refine Tri.agr1 hw8 (c0 h6 hr.tail.tail) ?_
    have e9 : Tapi_Frame.mk ((andI .u8 (b0.toNat : Int) (128 : Int)) != (0 : Int)) (IntKind.wrap .i64 (andI .u8 (b0.toNat : Int) (15 : Int))) false (0 : Int) (0 : Int) (0 : Int) (0 : Int) (ByteArray.mk #[]) = (Fr.mk (decide (128 ≤ b0.toNat)) (b0.toNat % 16) false Key.zero []).t := by
      rw [and128, and15, w64 (by omega) (by omega)]; rfl
    rw [e9]
    refine Tri.stB (l := Agg.cells (Fr.mk (decide (128 ≤ b0.toNat)) (b0.toNat % 16) false Key.zero []).t) (by rfl) (by simp [Fr.cells, frc]) rfl ?_
    have e9' : splice (frc Fr.none) 0 (Agg.cells (Fr.mk (decide (128 ≤ b0.toNat)) (b0.toNat % 16) false Key.zero []).t) = frc (Fr.mk (decide (128 ≤ b0.toNat)) (b0.toNat % 16) false Key.zero []) := rfl
    rw [e9']
    generalize hfin : decide (128 ≤ b0.toNat) = fin
    generalize hop : b0.toNat % 16 = op
    have hop16 : op < 16 := by omega
    refine Tri.ldI (Cell.here (i := 1) rfl) ?_
    rw [frame_Control_eq, ctlOp_int, bnd_ret]
    refine Tri.ixA 0 hr.tail.tail rfl (by omega) hne fun x12 h12 => ?_
    refine Tri.ldI (c0 h12 hr.tail.tail) ?_
    rw [and112]
    refine Tri.val (b0.toNat / 16 % 8 != 0 || !knownOp op) ?_ ?_
    · refine Tri.ite ?_ ?_
      · intro h; exact Tri.ret ⟨by rw [h]; rfl, rfl⟩
      · intro h
        refine Tri.ldI (Cell.here (i := 1) rfl) ?_
        rw [frame_known_eq, knownOp_int, bnd_ret]
        exact Tri.ret ⟨by rw [h]; rfl, rfl⟩
    refine Tri.val (b0.toNat / 16 % 8 != 0 || !knownOp op || (ctlOp op && !fin)) ?_ ?_
    · refine Tri.ite ?_ ?_
      · intro h; exact Tri.ret ⟨by rw [h]; rfl, rfl⟩
      · intro h
        rw [h]
        refine Tri.val (ctlOp op && !fin) ?_ (Tri.ret ⟨rfl, rfl⟩)
        refine Tri.ite ?_ ?_
        · intro h2
          refine Tri.ldB (Cell.here (i := 0) rfl) ?_
          exact Tri.ret ⟨by rw [h2]; rfl, rfl⟩
        · intro h2; exact Tri.ret ⟨by rw [h2]; rfl, rfl⟩
    have hhead : ∀ {L' : As} {x : Addr}, 0 < r.length → Spot ρ s 1 1 x → Rd ρ L' s 1 (bl (b0 :: r)) → Cell ρ L' x (byt (r.headD 0)) := fun h0 hx h => hx.cell h (by
      cases r with
      | nil => simp at h0
      | cons b1 t => rfl) (by omega)
    refine Tri.val (b0.toNat / 16 % 8 != 0 || !knownOp op || (ctlOp op && !fin) || (ctlOp op && decide (125 < (r.headD 0).toNat % 128))) ?_ ?_
    · refine Tri.ite ?_ ?_
      · intro h; exact Tri.ret ⟨by rw [h]; rfl, rfl⟩
      · intro h
        rw [h]
        refine Tri.val (ctlOp op && decide (0 < r.length)) ?_ ?_
        · refine Tri.ite ?_ ?_
          · intro h2
            refine Tri.ret ⟨?_, rfl⟩
            rw [h2, hn', Bool.true_and, Bool.eq_iff_iff]; simp; omega
          · intro h2; exact Tri.ret ⟨by rw [h2]; rfl, rfl⟩
        · refine Tri.val (ctlOp op && decide (125 < (r.headD 0).toNat % 128)) ?_ (Tri.ret ⟨rfl, rfl⟩)
          refine Tri.ite ?_ ?_
          · intro h2
            simp only [Bool.and_eq_true, decide_eq_true_eq] at h2
            refine Tri.ixA 1 hr.tail.tail rfl (by omega) hne fun x hx => ?_
            refine Tri.ldI (hhead h2.2 hx hr.tail.tail) ?_
            rw [and127]
            refine Tri.ret ⟨?_, rfl⟩
            rw [h2.1, Bool.true_and, Bool.eq_iff_iff]; simp; omega
          · intro h2
            refine Tri.ret ⟨?_, rfl⟩
            cases hco : ctlOp op with
            | false => rfl
            | true =>
              have : r = [] := by
                cases r with
                | nil => rfl
                | cons => rw [hco] at h2; simp at h2
              subst this; rfl
    have hcond : (b0.toNat / 16 % 8 ≠ 0 ∨ knownOp op = false ∨ (ctlOp op = true ∧ fin = false) ∨ (ctlOp op = true ∧ 125 < (r.headD 0).toNat % 128)) ↔ (b0.toNat / 16 % 8 != 0 || !knownOp op || (ctlOp op && !fin) || (ctlOp op && decide (125 < (r.headD 0).toNat % 128))) = true := by
      simp only [Bool.or_eq_true, bne_iff_ne, Bool.not_eq_true', Bool.and_eq_true, decide_eq_true_eq, or_assoc]
    refine Tri.ite ?_ ?_
    · intro h
      rw [none_t]
      refine Tri.drop (retFr rfl (frc_len _) ?_)
      have hg : frGet (b0 :: r) most = (Fr.none, 0, 91) := by
        simp only [frGet, hfin, hop]; rw [if_pos (hcond.2 h)]
      rw [hg]; exact ⟨rfl, rfl⟩
    intro h
    have hg : frGet (b0 :: r) most = (let g := getLen r
      if g.2.2 = 81 then (Fr.none, 0, 91) else if g.2.2 ≠ 0 then (Fr.none, 0, 90) else if most < g.1 then (Fr.none, 0, 92) else
      let masked := decide (128 ≤ (r.headD 0).toNat)
      let at0 := 1 + g.2.1
      if masked = true ∧ (b0 :: r).length < at0 + 4 then (Fr.none, 0, 90) else
      let at1 := if masked then at0 + 4 else at0
      let key := if masked then keyAt (b0 :: r) at0 else Key.zero
      if (b0 :: r).length < at1 + g.1 then (Fr.none, 0, 90) else
      (⟨fin, op, masked, key, turn key 0 (((b0 :: r).drop at1).take g.1)⟩, at1 + g.1, 0)) := by
        simp only [frGet, hfin, hop]; rw [if_neg (fun h' => by rw [hcond.1 h'] at h; simp at h)]
    dsimp only at hg
    clear hcond
    rw [hg]
    clear hg h
    refine Tri.slS 1 s.n s.c (by rfl) (by rfl) (by rfl) (by omega) hc (Nat.le_refl _) fun x26 h26 hc26' => ?_
    have hr26 : ∀ {L' : As}, Rd ρ L' s 1 (bl (b0 :: r)) → Rd ρ L' x26 1 (bl r) := fun h => by
      have h2 := Rd.subB h26 h (by omega)
      have e : ((b0 :: r).drop 1).take (s.n - 1) = r := by rw [hn']; simp
      rwa [e] at h2
    have hc26 : x26.n ≤ x26.c := by rw [h26.n, hc26']; omega
    refine Tri.bnd (mask_Get_spec hK (hr26 hr.tail.tail) (by rw [h26.n]; omega) hc26 (by omega)) ?_
    rintro _ _ ⟨rfl, rfl⟩
    dsimp only
    obtain ⟨gb1, gb2, gb3⟩ := getLen_bound r
    generalize hgn : (getLen r).1 = n at gb1 ⊢
    generalize hgk : (getLen r).2.1 = k at gb2 gb3 ⊢
    generalize hge : (getLen r).2.2 = e at gb3 ⊢
    refine Tri.lt ?_
    refine Tri.ite ?_ ?_
    · intro h
      have h' : e = 81 := by simp at h; omega
      rw [none_t]
      refine Tri.drop (retFr rfl (frc_len _) ?_)
      rw [if_pos h']; exact ⟨rfl, rfl⟩
    intro h
    have h81 : e ≠ 81 := by simp at h; omega
    rw [if_neg h81]
    refine Tri.lt ?_
    refine Tri.ite ?_ ?_
    · intro h
      have h' : e ≠ 0 := by simp at h; omega
      rw [none_t]
      refine Tri.drop (retFr rfl (frc_len _) ?_)
      rw [if_pos h']; exact ⟨rfl, rfl⟩
    intro h
    have he0 : e = 0 := by simp at h; omega
    rw [if_neg (show ¬ e ≠ 0 by omega)]
    obtain ⟨hk1, hk2⟩ := gb3 he0
    refine Tri.val (decide (most < n)) ?_ ?_
    · refine Tri.ite ?_ ?_
      · intro h; simp at h; omega
      · intro _
        rw [wu64 (by omega) (by omega)]
        refine Tri.ret ⟨?_, rfl⟩
        rw [Bool.eq_iff_iff]; simp
    refine Tri.ite ?_ ?_
    · intro h
      have h' : most < n := by simpa using h
      rw [none_t]
      refine Tri.drop (retFr rfl (frc_len _) ?_)
      rw [if_pos h']; exact ⟨rfl, rfl⟩
    intro h
    have hmn : ¬ most < n := by simpa using h
    rw [if_neg hmn]
    clear h
    refine Tri.lt ?_
    have e34 : IntKind.wrap .i64 ((1 : Int) + (k : Int)) = ((1 + k : Nat) : Int) := by rw [w64 (by omega) (by omega)]; omega
    rw [e34]
    refine Tri.ixA 1 hr.tail.tail rfl (by omega) hne fun x35 hx => ?_
    refine Tri.ldI (hhead (by omega) hx hr.tail.tail) ?_
    rw [and128, addr_add, addr_add, addr_add, Nat.zero_add, Nat.zero_add]
    refine Tri.stB (l := [.bool (decide (128 ≤ (r.headD 0).toNat))]) (by rfl) (by simp [frc]) rfl ?_
    generalize hmk : decide (128 ≤ (r.headD 0).toNat) = mk
    have es : splice (frc ⟨fin, op, false, Key.zero, []⟩) 2 [.bool mk] = frc ⟨fin, op, mk, Key.zero, []⟩ := rfl
    rw [es]
    refine Tri.ldB (Cell.here (i := 2) rfl) ?_
    have last : ∀ (key : Key) (at1 : Nat), at1 ≤ r.length + 1 →
        Tri ρ (pts b9 (frc ⟨fin, op, mk, key, []⟩) :: pts b1 (frc Fr.none) :: L)
          (if decide ((IntKind.wrap .u64 (IntKind.wrap .i64 ((s.n : Int) - (at1 : Int)))) < (n : Int)) = true then
            st ⟨b1, 0, none⟩ (.agg (Agg.cells (Tapi_Frame.mk false (0 : Int) false (0 : Int) (0 : Int) (0 : Int) (0 : Int) (ByteArray.mk #[]))).toArray) <|
            ldG (α := Tapi_Frame) ⟨b1, 0, none⟩ fun r49 => ret (r49, (0 : Int), (90 : Int))
          else
            lt (IntKind.wrap .i64 ((at1 : Int) + (IntKind.wrap .i64 (n : Int)))) fun x50 =>
            drw <| ldG (α := A4u8) ⟨b9, 3, none⟩ fun x51 => slS s (some (at1 : Int)) (some x50) none 1 fun x52 =>
            bnd (mask_Apply K x51 (0 : Int) x52) fun x53 => strOf x53 fun x54 => st (Addr.add ⟨b9, 0, none⟩ 7) (.string x54) <|
            ldG (α := Tapi_Frame) ⟨b9, 0, none⟩ fun x55 => st ⟨b1, 0, none⟩ (.agg (Agg.cells x55).toArray) <| ldG (α := Tapi_Frame) ⟨b1, 0, none⟩ fun r56 => ret (r56, x50, (0 : Int)))
          (fun q L' => q = ((if r.length + 1 < at1 + n then (Fr.none, 0, 90) else (⟨fin, op, mk, key, turn key 0 (((b0 :: r).drop at1).take n)⟩, at1 + n, 0) : Fr × Nat × Nat).1.t, (((if r.length + 1 < at1 + n then (Fr.none, 0, 90) else (⟨fin, op, mk, key, turn key 0 (((b0 :: r).drop at1).take n)⟩, at1 + n, 0) : Fr × Nat × Nat).2.1 : Nat) : Int), (((if r.length + 1 < at1 + n then (Fr.none, 0, 90) else (⟨fin, op, mk, key, turn key 0 (((b0 :: r).drop at1).take n)⟩, at1 + n, 0) : Fr × Nat × Nat).2.2 : Nat) : Int)) ∧ L' = L) := by
      intro key at1 hat
      have e1 : IntKind.wrap .u64 (IntKind.wrap .i64 ((s.n : Int) - (at1 : Int))) = ((r.length + 1 - at1 : Nat) : Int) := by
        rw [w64 (by omega) (by omega), wu64 (by omega) (by omega)]; omega
      rw [e1]
      refine Tri.ite ?_ ?_
      · intro h
        have h' : r.length + 1 < at1 + n := by simp at h; omega
        rw [none_t]
        refine Tri.drop (retFr rfl (frc_len _) ?_)
        rw [if_pos h']; exact ⟨rfl, rfl⟩
      · intro h
        have h' : ¬ r.length + 1 < at1 + n := by simp at h; omega
        rw [if_neg h']
        refine Tri.lt ?_
        have e2 : IntKind.wrap .i64 ((at1 : Int) + (IntKind.wrap .i64 (n : Int))) = ((at1 + n : Nat) : Int) := by
          rw [w64 (x := (n : Int)) (by omega) (by omega), w64 (by omega) (by omega)]; omega
        rw [e2]
        refine Tri.drw ?_
        refine Tri.ldG key.t rfl (Cells.here (i := 3) (by simp [Agg.cells, frc]) rfl) ?_
        refine Tri.slS at1 (at1 + n) s.c (by rfl) (by rfl) (by rfl) (by omega) (by omega) (Nat.le_refl _) fun x52 h52 hc52 => ?_
        have hn52 := h52.n
        refine Tri.bnd (mask_Apply_spec (at_ := 0) hK (by omega) (Rd.subB h52 hr.tail.tail (by omega)) (by rw [hn52]; simp; omega) (by simp; omega)) ?_
        rintro x53 L1 ⟨h53, rfl⟩
        refine Tri.strOf (t := ba (turn key 0 (((b0 :: r).drop at1).take (at1 + n - at1)))) (by rw [bytes_ba]; exact Rd.row) ?_
        refine Tri.drop ?_
        rw [addr_add, Nat.zero_add, Nat.add_sub_cancel_left]
        refine Tri.stB (l := [.string (ba (turn key 0 (((b0 :: r).drop at1).take n)))]) (by rfl) (by simp [frc]) rfl ?_
        have e3 : splice (frc ⟨fin, op, mk, key, []⟩) 7 [.string (ba (turn key 0 (((b0 :: r).drop at1).take n)))] = frc ⟨fin, op, mk, key, turn key 0 (((b0 :: r).drop at1).take n)⟩ := rfl
        rw [e3]
        refine Tri.ldG (Fr.mk fin op mk key (turn key 0 (((b0 :: r).drop at1).take n))).t rfl (Cells.here (i := 0) (by simp [Fr.cells, frc]) (by rfl)) ?_
        refine Tri.drop (retFr rfl (frc_len _) ⟨rfl, rfl⟩)
    cases mk with
    | false =>
      simp only [Bool.false_eq_true, if_false, bnd_ret, sumK_inl, false_and]
      exact last Key.zero (1 + k) (by omega)
    | true =>
      simp only [if_true, bnd_ite, true_and]
      have e5 : IntKind.wrap .i64 (((1 + k : Nat) : Int) + (4 : Int)) = ((1 + k + 4 : Nat) : Int) := by rw [w64 (by omega) (by omega)]; omega
      rw [e5]
      refine Tri.ite ?_ ?_
      · intro h
        have h' : (b0 :: r).length < 1 + k + 4 := by simp at h ⊢; omega
        simp only [bnd_st, bnd_inr]
        rw [none_t]
        refine Tri.drop (retFr rfl (frc_len _) ?_)
        rw [if_pos h']; exact ⟨rfl, rfl⟩
      · intro h
        have h' : ¬ (b0 :: r).length < 1 + k + 4 := by simp at h ⊢; omega
        have h'' : 1 + k + 4 ≤ r.length + 1 := by simp at h'; omega
        simp only [bnd_drw, bnd_slA, bnd_slS, bnd_cpy, bnd_lt, bnd_ret, sumK_inl]
        rw [if_neg h']
        refine Tri.drw ?_
        refine Tri.slA0 ?_
        refine Tri.slS (1 + k) s.n s.c (by rfl) (by rfl) (by rfl) (by omega) hc (Nat.le_refl _) fun x45 h45 hc45 => ?_
        have hn45 := h45.n
        have hl45 : (((b0 :: r).drop (1 + k)).take (s.n - (1 + k))).length = x45.n := by rw [hn45]; simp; omega
        refine Tri.cpyB (o := 3) rfl (Rd.subB h45 hr.tail.tail (by omega)) (by rw [bl_length, hl45]; simp) (bl_one _) (by simp [frc]) ?_
        have e6 : min x45.n 4 = 4 := by omega
        simp only [e6]
        have e7 : splice (frc ⟨fin, op, true, Key.zero, []⟩) 3 ((bl (((b0 :: r).drop (1 + k)).take (s.n - (1 + k)))).take (4 * 1)) = frc ⟨fin, op, true, keyAt (b0 :: r) (1 + k), []⟩ := by
          rw [bl_take, List.take_take, Nat.min_eq_left (by omega)]
          have e8 : ((b0 :: r).drop (1 + k)).take (4 * 1) = (keyAt (b0 :: r) (1 + k)).l := keyAt_l _ _ (by simp; omega)
          rw [e8]; rfl
        rw [e7]
        refine Tri.lt ?_
        have e8 : IntKind.wrap .i64 (((1 + k : Nat) : Int) + ((4 : Nat) : Int)) = ((1 + k + 4 : Nat) : Int) := e5
        rw [e8]
        exact last (keyAt (b0 :: r) (1 + k)) (1 + k + 4) h''
end Go.Proofs.YtjdnjlnfcbaokaaGreat

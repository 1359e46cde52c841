/-
  SPECS, 2: frame (Check, Put). Own work.
-/
import Derived.Test.YtjdnjlnfcbaokaaGreatSp1
set_option linter.unusedVariables false
set_option linter.unusedSimpArgs false
namespace Go.Proofs.YtjdnjlnfcbaokaaGreat
open Go Go.Lg
variable {α β σ τ : Type} {ρ : Hp} {L M : As} {K : Nat}

structure Fr where
  fin : Bool
  op : Nat
  masked : Bool
  key : Key
  data : List UInt8
deriving DecidableEq
def Fr.none : Fr := ⟨false, 0, false, Key.zero, []⟩
def Fr.t (f : Fr) : Tapi_Frame := ⟨f.fin, f.op, f.masked, f.key.e0.toNat, f.key.e1.toNat, f.key.e2.toNat, f.key.e3.toNat, ba f.data⟩
theorem Fr.cells (f : Fr) : Agg.cells f.t = [.bool f.fin, .int .i64 f.op, .bool f.masked, byt f.key.e0, byt f.key.e1, byt f.key.e2, byt f.key.e3, .string (ba f.data)] := rfl
def ctlOp (op : Nat) : Bool := op == 8 || op == 9 || op == 10
def knownOp (op : Nat) : Bool := ctlOp op || op == 0 || op == 1 || op == 2
def formF (f : Fr) : Bool := knownOp f.op && (!ctlOp f.op || (f.fin && decide (f.data.length ≤ 125))) && (f.masked || decide (f.key = Key.zero))
def chkF (f : Fr) : Nat := if formF f = false then 91 else if 65536 < f.data.length then 92 else 0
theorem frame_Control_eq (a : Int) : frame_Control K a = ret (a == 8 || a == 9 || a == 10) := by
  unfold frame_Control
  cases h1 : (a == 8) <;> cases h2 : (a == 9) <;> cases h3 : (a == 10) <;> rfl
theorem frame_known_eq (a : Int) : frame_known K a = ret (a == 8 || a == 9 || a == 10 || a == 0 || a == 1 || a == 2) := by
  unfold frame_known
  rw [frame_Control_eq]
  cases h1 : (a == 8) <;> cases h2 : (a == 9) <;> cases h3 : (a == 10) <;> cases h4 : (a == 0) <;> cases h5 : (a == 1) <;> cases h6 : (a == 2) <;> rfl
theorem beqI (a b : Nat) : ((a : Int) == (b : Int)) = (a == b) := by
  rw [Bool.eq_iff_iff]; simp only [beq_iff_eq]; omega
theorem ctlOp_int (op : Nat) : ((op : Int) == 8 || (op : Int) == 9 || (op : Int) == 10) = ctlOp op := by
  unfold ctlOp; rw [← beqI op 8, ← beqI op 9, ← beqI op 10]; rfl
theorem knownOp_int (op : Nat) : ((op : Int) == 8 || (op : Int) == 9 || (op : Int) == 10 || (op : Int) == 0 || (op : Int) == 1 || (op : Int) == 2) = knownOp op := by
  unfold knownOp; rw [ctlOp_int, ← beqI op 0, ← beqI op 1, ← beqI op 2]; rfl
theorem key_eqb (k : Key) : A4u8.eqb k.t (A4u8.mk 0 0 0 0) = decide (k = Key.zero) := by
  rw [Bool.eq_iff_iff]
  obtain ⟨a, b, c, d⟩ := k
  simp only [A4u8.eqb, Key.t, Key.zero, Bool.and_eq_true, beq_iff_eq, decide_eq_true_eq, Key.mk.injEq, ← UInt8.toNat_inj]
  simp only [UInt8.toNat_zero]
  omega
theorem frame_Check_spec {f : Fr} : Tri ρ L (frame_Check K f.t) (fun r L' => r = (chkF f : Nat) ∧ L' = L) := by
  unfold frame_Check
  simp only [bnd_ret, bnd_bnd, bnd_ite, bnd_lt, bnd_ldB, bnd_ldI, bnd_ldS, bnd_ldP, bnd_ldSl, bnd_ldG, bnd_nn, bnd_ixA, bnd_st, bnd_drw, bnd_strOf, bnd_new, bnd_slS, bnd_slA, bnd_slStr, bnd_app, bnd_appS, bnd_appT, bnd_appZ, bnd_chk, bnd_mk, bnd_cpy, bnd_wld, bnd_agr, bnd_bytesOf, bnd_drw2, bnd_mrk, bnd_fail, sumK_inl, sumK_inr, bnd_inr, frame_known_eq, frame_Control_eq]
  refine Tri.new fun b => ?_
  rw [Fr.cells]
  refine Tri.ldI (Cell.here (i := 1) rfl) ?_
  rw [knownOp_int]
  cases hk : knownOp f.op with
  | false =>
    simp only [Bool.not_false, if_true, bnd_ret]
    exact Tri.drop (Tri.ret ⟨by simp [chkF, formF, hk], rfl⟩)
  | true =>
    simp only [Bool.not_true, Bool.false_eq_true, if_false, bnd_ret, bnd_bnd, bnd_ite, bnd_lt, bnd_ldB, bnd_ldI, bnd_ldS, bnd_ldP, bnd_ldSl, bnd_ldG, bnd_nn, bnd_ixA, bnd_st, bnd_drw, bnd_strOf, bnd_new, bnd_slS, bnd_slA, bnd_slStr, bnd_app, bnd_appS, bnd_appT, bnd_appZ, bnd_chk, bnd_mk, bnd_cpy, bnd_wld, bnd_agr, bnd_bytesOf, bnd_drw2, bnd_mrk, bnd_fail, sumK_inl, sumK_inr, bnd_inr]
    refine Tri.ldI (Cell.here (i := 1) rfl) ?_
    rw [ctlOp_int]
    have rest : ∀ (h : (!ctlOp f.op || (f.fin && decide (f.data.length ≤ 125))) = true), Tri ρ (pts b [.bool f.fin, .int .i64 f.op, .bool f.masked, byt f.key.e0, byt f.key.e1, byt f.key.e2, byt f.key.e3, .string (ba f.data)] :: L)
        (ldB ((⟨b, 0, none⟩ : Addr).add 2) fun x12 => bnd (if (!x12) = true then ldG (α := A4u8) ((⟨b, 0, none⟩ : Addr).add 3) fun x14 => ret (!A4u8.eqb x14 (A4u8.mk 0 0 0 0)) else ret false) fun x13 => if x13 = true then ret (91 : Int) else ldS ((⟨b, 0, none⟩ : Addr).add 7) fun x15 => lt (decide ((65536 : Int) < (x15.size : Int))) fun x16 => if x16 = true then ret (92 : Int) else ret (0 : Int)) (fun r L' => r = (chkF f : Nat) ∧ L' = L) := by
      intro h
      refine Tri.ldB (Cell.here (i := 2) rfl) ?_
      have fin : formF f = true → Tri ρ (pts b [.bool f.fin, .int .i64 f.op, .bool f.masked, byt f.key.e0, byt f.key.e1, byt f.key.e2, byt f.key.e3, .string (ba f.data)] :: L) (ldS ((⟨b, 0, none⟩ : Addr).add 7) fun x15 => lt (decide ((65536 : Int) < (x15.size : Int))) fun x16 => if x16 = true then ret (92 : Int) else ret (0 : Int)) (fun r L' => r = (chkF f : Nat) ∧ L' = L) := by
        intro hf
        refine Tri.ldS (Cell.here (i := 7) rfl) ?_
        refine Tri.lt ?_
        rw [ba_size]
        refine Tri.ite ?_ ?_
        · intro h2
          have h3 : 65536 < f.data.length := by simp at h2; omega
          exact Tri.drop (Tri.ret ⟨by simp [chkF, hf, h3], rfl⟩)
        · intro h2
          have h3 : ¬ 65536 < f.data.length := by simp at h2; omega
          exact Tri.drop (Tri.ret ⟨by simp [chkF, hf, h3], rfl⟩)
      cases hm : f.masked with
      | true =>
        simp only [Bool.not_true, Bool.false_eq_true, if_false, bnd_ret, bnd_bnd, bnd_ite, bnd_lt, bnd_ldB, bnd_ldI, bnd_ldS, bnd_ldP, bnd_ldSl, bnd_ldG, bnd_nn, bnd_ixA, bnd_st, bnd_drw, bnd_strOf, bnd_new, bnd_slS, bnd_slA, bnd_slStr, bnd_app, bnd_appS, bnd_appT, bnd_appZ, bnd_chk, bnd_mk, bnd_cpy, bnd_wld, bnd_agr, bnd_bytesOf, bnd_drw2, bnd_mrk, bnd_fail, sumK_inl, sumK_inr, bnd_inr]
        rw [hm] at fin
        exact fin (by simp [formF, hk, h, hm])
      | false =>
        simp only [Bool.not_false, if_true, bnd_ret, bnd_bnd, bnd_ite, bnd_lt, bnd_ldB, bnd_ldI, bnd_ldS, bnd_ldP, bnd_ldSl, bnd_ldG, bnd_nn, bnd_ixA, bnd_st, bnd_drw, bnd_strOf, bnd_new, bnd_slS, bnd_slA, bnd_slStr, bnd_app, bnd_appS, bnd_appT, bnd_appZ, bnd_chk, bnd_mk, bnd_cpy, bnd_wld, bnd_agr, bnd_bytesOf, bnd_drw2, bnd_mrk, bnd_fail, sumK_inl, sumK_inr, bnd_inr]
        refine Tri.ldG f.key.t rfl (Cells.here (i := 3) (by simp [Agg.cells]) rfl) ?_
        rw [key_eqb]
        cases hz : decide (f.key = Key.zero) with
        | true =>
          simp only [Bool.not_true, Bool.false_eq_true, if_false]
          rw [hm] at fin
          exact fin (by simp [formF, hk, h, hm, hz])
        | false =>
          simp only [Bool.not_false, if_true]
          exact Tri.drop (Tri.ret ⟨by simp [chkF, formF, hk, h, hm, hz], rfl⟩)
    cases hc : ctlOp f.op with
    | false =>
      simp only [Bool.false_eq_true, if_false, bnd_ret, bnd_bnd, bnd_ite, bnd_lt, bnd_ldB, bnd_ldI, bnd_ldS, bnd_ldP, bnd_ldSl, bnd_ldG, bnd_nn, bnd_ixA, bnd_st, bnd_drw, bnd_strOf, bnd_new, bnd_slS, bnd_slA, bnd_slStr, bnd_app, bnd_appS, bnd_appT, bnd_appZ, bnd_chk, bnd_mk, bnd_cpy, bnd_wld, bnd_agr, bnd_bytesOf, bnd_drw2, bnd_mrk, bnd_fail, sumK_inl, sumK_inr, bnd_inr] at rest ⊢
      exact rest (by simp [hc])
    | true =>
      simp only [if_true, bnd_ret, bnd_bnd, bnd_ite, bnd_lt, bnd_ldB, bnd_ldI, bnd_ldS, bnd_ldP, bnd_ldSl, bnd_ldG, bnd_nn, bnd_ixA, bnd_st, bnd_drw, bnd_strOf, bnd_new, bnd_slS, bnd_slA, bnd_slStr, bnd_app, bnd_appS, bnd_appT, bnd_appZ, bnd_chk, bnd_mk, bnd_cpy, bnd_wld, bnd_agr, bnd_bytesOf, bnd_drw2, bnd_mrk, bnd_fail, sumK_inl, sumK_inr, bnd_inr]
      refine Tri.ldB (Cell.here (i := 0) rfl) ?_
      cases hf : f.fin with
      | false =>
        simp only [Bool.not_false, if_true, bnd_ret, bnd_bnd, bnd_ite, bnd_lt, bnd_ldB, bnd_ldI, bnd_ldS, bnd_ldP, bnd_ldSl, bnd_ldG, bnd_nn, bnd_ixA, bnd_st, bnd_drw, bnd_strOf, bnd_new, bnd_slS, bnd_slA, bnd_slStr, bnd_app, bnd_appS, bnd_appT, bnd_appZ, bnd_chk, bnd_mk, bnd_cpy, bnd_wld, bnd_agr, bnd_bytesOf, bnd_drw2, bnd_mrk, bnd_fail, sumK_inl, sumK_inr, bnd_inr]
        exact Tri.drop (Tri.ret ⟨by simp [chkF, formF, hk, hc, hf], rfl⟩)
      | true =>
        simp only [Bool.not_true, Bool.false_eq_true, if_false, bnd_ret, bnd_bnd, bnd_ite, bnd_lt, bnd_ldB, bnd_ldI, bnd_ldS, bnd_ldP, bnd_ldSl, bnd_ldG, bnd_nn, bnd_ixA, bnd_st, bnd_drw, bnd_strOf, bnd_new, bnd_slS, bnd_slA, bnd_slStr, bnd_app, bnd_appS, bnd_appT, bnd_appZ, bnd_chk, bnd_mk, bnd_cpy, bnd_wld, bnd_agr, bnd_bytesOf, bnd_drw2, bnd_mrk, bnd_fail, sumK_inl, sumK_inr, bnd_inr]
        refine Tri.ldS (Cell.here (i := 7) rfl) ?_
        rw [ba_size]
        cases hd : decide ((125 : Int) < (f.data.length : Int)) with
        | true =>
          have h3 : ¬ f.data.length ≤ 125 := by simp at hd; omega
          simp only [if_true, bnd_ret, bnd_bnd, bnd_ite, bnd_lt, bnd_ldB, bnd_ldI, bnd_ldS, bnd_ldP, bnd_ldSl, bnd_ldG, bnd_nn, bnd_ixA, bnd_st, bnd_drw, bnd_strOf, bnd_new, bnd_slS, bnd_slA, bnd_slStr, bnd_app, bnd_appS, bnd_appT, bnd_appZ, bnd_chk, bnd_mk, bnd_cpy, bnd_wld, bnd_agr, bnd_bytesOf, bnd_drw2, bnd_mrk, bnd_fail, sumK_inl, sumK_inr, bnd_inr]
          exact Tri.drop (Tri.ret ⟨by simp [chkF, formF, hk, hc, hf, h3], rfl⟩)
        | false =>
          have h3 : f.data.length ≤ 125 := by simp at hd; omega
          simp only [Bool.false_eq_true, if_false, bnd_ret, bnd_bnd, bnd_ite, bnd_lt, bnd_ldB, bnd_ldI, bnd_ldS, bnd_ldP, bnd_ldSl, bnd_ldG, bnd_nn, bnd_ixA, bnd_st, bnd_drw, bnd_strOf, bnd_new, bnd_slS, bnd_slA, bnd_slStr, bnd_app, bnd_appS, bnd_appT, bnd_appZ, bnd_chk, bnd_mk, bnd_cpy, bnd_wld, bnd_agr, bnd_bytesOf, bnd_drw2, bnd_mrk, bnd_fail, sumK_inl, sumK_inr, bnd_inr] at rest ⊢
          rw [hf] at rest
          exact rest (by simp [hc, hf, h3])
/-! ### Put -/
def hd0 (f : Fr) : UInt8 := UInt8.ofNat (if f.fin then f.op + 128 else f.op)
def addHi : List UInt8 → List UInt8
  | [] => []
  | b :: r => UInt8.ofNat (b.toNat + 128) :: r
def frPut (f : Fr) : List UInt8 :=
  if f.masked then hd0 f :: (addHi (lenB f.data.length) ++ f.key.l ++ turn f.key 0 f.data) else hd0 f :: (lenB f.data.length ++ f.data)
theorem or128 (n : Nat) (h : n < 128) : orI .u8 (n : Int) 128 = ((n + 128 : Nat) : Int) := by
  have : ∀ x : Fin 128, orI .u8 (x.val : Int) 128 = ((x.val + 128 : Nat) : Int) := by decide +kernel
  exact this ⟨n, h⟩
theorem numB_pos (n s : Nat) : (numB n s).length = s := numB_length s n
theorem lenB_cons (n : Nat) (h : n < 9223372036854775808) : ∃ b r, lenB n = b :: r ∧ b.toNat < 128 := by
  unfold lenB
  by_cases h1 : n < 126
  · exact ⟨UInt8.ofNat n, [], by simp [h1], by simp [UInt8.toNat_ofNat']; omega⟩
  · by_cases h2 : n < 65536
    · exact ⟨126, numB n 2, by simp [h1, h2], by decide⟩
    · exact ⟨127, numB n 8, by simp [h1, h2], by decide⟩
theorem lenB_length (n : Nat) : (lenB n).length ≤ 9 := by
  unfold lenB; split
  · simp
  · split <;> simp [numB_length]
theorem byt_of {n : Nat} (h : n < 256) : (.int .u8 (n : Int) : Value) = byt (UInt8.ofNat n) := by
  rw [byt_ofNat]; congr 1; omega
theorem known_lt {op : Nat} (h : knownOp op = true) : op < 16 := by
  simp only [knownOp, ctlOp, Bool.or_eq_true, beq_iff_eq] at h; omega
theorem Rd.lit {b : Nat} {l : List UInt8} : Rd ρ (pts b (bl l) :: L) ⟨some ⟨b, 0, none⟩, l.length, l.length⟩ 1 (bl l) :=
  Rd.pts (o := 0) rfl (by simp [bl_length]) (by rw [List.drop_zero, Nat.mul_one]; show (bl l).take l.length = bl l; rw [← bl_length l, List.take_length])
theorem frame_Put_spec {f : Fr} (hK : KBig K) (hc : chkF f = 0) : Tri ρ L (frame_Put K f.t) (fun r L' => r.2 = 0 ∧ r.1.n = (frPut f).length ∧ L' = row r.1 1 (bl (frPut f)) :: L) := by
  have hform : formF f = true := by
    cases h : formF f with
    | true => rfl
    | false => simp [chkF, h] at hc
  have hdl : f.data.length ≤ 65536 := by
    simp only [chkF, hform] at hc
    simp at hc; omega
  have hkn : knownOp f.op = true := by
    simp only [formF, Bool.and_eq_true] at hform; exact hform.1.1
  have hop := known_lt hkn
  unfold frame_Put
  simp only [bnd_ret, bnd_bnd, bnd_ite, bnd_lt, bnd_ldB, bnd_ldI, bnd_ldS, bnd_ldP, bnd_ldSl, bnd_ldG, bnd_nn, bnd_ixA, bnd_st, bnd_drw, bnd_strOf, bnd_new, bnd_slS, bnd_slA, bnd_slStr, bnd_app, bnd_appS, bnd_appT, bnd_appZ, bnd_chk, bnd_mk, bnd_cpy, bnd_wld, bnd_agr, bnd_bytesOf, bnd_drw2, bnd_mrk, bnd_fail, sumK_inl, sumK_inr, bnd_inr]
  refine Tri.new fun b => ?_
  refine Tri.ldG f.t rfl (Cells.here (i := 0) (by simp) (by rfl)) ?_
  refine Tri.bnd frame_Check_spec ?_
  rintro r L0 ⟨rfl, rfl⟩
  rw [hc]
  refine Tri.ite ?_ ?_
  · intro h; simp at h
  intro _
  rw [Fr.cells]
  refine Tri.ldI (Cell.here (i := 1) rfl) ?_
  refine Tri.lt ?_
  refine Tri.ldB (Cell.here (i := 0) rfl) ?_
  have e0 : IntKind.wrap .u8 (f.op : Int) = (f.op : Int) := by rw [wrU8]; omega
  rw [e0]
  have rest : ∀ t1 t2 t3 : TypeId, Tri ρ (pts b [.bool f.fin, .int .i64 f.op, .bool f.masked, byt f.key.e0, byt f.key.e1, byt f.key.e2, byt f.key.e3, .string (ba f.data)] :: L)
    (ldS ((⟨b, 0, none⟩ : Addr).add 7) fun x10 => bnd (mask_Put K (IntKind.wrap .u64 (x10.size : Int))) fun x11 =>
    ldS ((⟨b, 0, none⟩ : Addr).add 7) fun x12 => bytesOf t1 x12 fun x13 => ldB ((⟨b, 0, none⟩ : Addr).add 2) fun x14 =>
    if x14 = true then
      ixA x11.1 (0 : Int) 1 fun x21 => ldI .u8 x21 fun x22 => ixA x11.1 (0 : Int) 1 fun x23 => st x23 (.int .u8 (orI .u8 x22 (128 : Int))) <|
      drw <| slA ((⟨b, 0, none⟩ : Addr).add 3) 4 none none 1 fun x24 => ldG (α := A4u8) ((⟨b, 0, none⟩ : Addr).add 3) fun x25 => bnd (mask_Apply K x25 (0 : Int) x13) fun x26 =>
      new [byt (hd0 f)] t2 fun x28 =>
      new [.slice (Sl.mk (some x28) 1 1).a (Sl.mk (some x28) 1 1).n (Sl.mk (some x28) 1 1).c, .slice x11.1.a x11.1.n x11.1.c, .slice x24.a x24.n x24.c, .slice x26.a x26.n x26.c] t3 fun x29 =>
      bnd (slices_Concat_byte K (Sl.mk (some x29) 4 4)) fun x30 => ret (x30, (0 : Int))
    else
      new [byt (hd0 f)] t2 fun x28 =>
      new [.slice (Sl.mk (some x28) 1 1).a (Sl.mk (some x28) 1 1).n (Sl.mk (some x28) 1 1).c, .slice x11.1.a x11.1.n x11.1.c, .slice Sl.nil.a Sl.nil.n Sl.nil.c, .slice x13.a x13.n x13.c] t3 fun x29 =>
      bnd (slices_Concat_byte K (Sl.mk (some x29) 4 4)) fun x30 => ret (x30, (0 : Int))) (fun r L' => r.2 = 0 ∧ r.1.n = (frPut f).length ∧ L' = row r.1 1 (bl (frPut f)) :: L) := by
    intro t1 t2 t3
    refine Tri.ldS (Cell.here (i := 7) rfl) ?_
    rw [ba_size, wu64 (by omega) (by omega)]
    refine Tri.bnd (mask_Put_spec hK (by omega)) ?_
    rintro ⟨x11, e11⟩ L1 ⟨h1, h2, rfl⟩
    simp only at h1 h2
    refine Tri.ldS (Cell.here (i := 7) rfl).tail ?_
    refine Tri.bytesOf fun x13 h13 _ => ?_
    rw [bytes_ba]
    rw [ba_size] at h13
    refine Tri.ldB (Cell.here (i := 2) rfl).tail.tail ?_
    obtain ⟨c, t, hl, hc128⟩ := lenB_cons f.data.length (by omega)
    have hll := lenB_length f.data.length
    refine Tri.ite ?_ ?_
    · intro hm
      have hne : bl (lenB f.data.length) ≠ [] := by rw [hl]; simp [bl]
      refine Tri.ixA 0 Rd.row.tail rfl (by rw [h2, hl]; simp) hne fun x21 hx => ?_
      refine Tri.ldI (hx.cell Rd.row.tail (v := byt c) (by rw [hl]; rfl) (by rw [h2, hl]; simp)) ?_
      refine Tri.ixA 0 Rd.row.tail rfl (by rw [h2, hl]; simp) hne fun x23 hy => ?_
      rw [or128 _ hc128]
      refine Tri.pick 1 rfl (Tri.stRow hy (by rw [h2, hl]; simp) rfl rfl rfl ?_)
      have e1 : splice (bl (lenB f.data.length)) (0 * 1) [.int .u8 ((c.toNat + 128 : Nat) : Int)] = bl (addHi (lenB f.data.length)) := by
        rw [hl, splice_one _ _ _ (by simp [bl]), byt_of (by omega)]; rfl
      refine Eq.mpr (congrArg (fun z => Tri ρ (row x11 1 z :: _) _ _) e1) ?_
      refine Tri.drw (Tri.slA0 ?_)
      refine Tri.ldG f.key.t rfl (Cells.here (i := 3) (by simp [Agg.cells]) rfl).tail.tail ?_
      refine Tri.bnd (mask_Apply_spec (at_ := 0) hK (by omega) Rd.row.tail (by omega) (by omega)) ?_
      rintro x26 L2 ⟨h26, rfl⟩
      refine Tri.new fun b28 => ?_
      refine Tri.new fun b29 => ?_
      have hah : (addHi (lenB f.data.length)).length = x11.n := by rw [h2, hl]; rfl
      refine Tri.bnd (slices_Concat_spec (ss := [(⟨some ⟨b28, 0, none⟩, 1, 1⟩, [hd0 f]), (x11, addHi (lenB f.data.length)), (⟨some (Addr.add ⟨b, 0, none⟩ 3), 4, 4⟩, f.key.l), (x26, turn f.key 0 f.data)]) hK ?_ rfl ?_ (by simp) ?_) ?_
      · exact Rd.pts (o := 0) rfl (by simp) rfl
      · intro p hp
        simp only [List.mem_cons, List.not_mem_nil, or_false] at hp
        rcases hp with rfl | rfl | rfl | rfl
        · exact ⟨rfl, (Rd.lit (l := [hd0 f])).tail⟩
        · exact ⟨hah.symm, (Rd.row (l := bl (addHi (lenB f.data.length)))).tail.tail.tail⟩
        · exact ⟨rfl, (Rd.pts (o := 3) rfl (by simp) rfl).tail.tail.tail.tail.tail⟩
        · exact ⟨by rw [h26, turn_length], Rd.row.tail.tail⟩
      · simp only [whole, List.flatMap_cons, List.flatMap_nil, List.length_append, turn_length, List.length_cons, List.length_nil, hah, h2, Key.l]; omega
      · rintro r L3 ⟨h30, rfl⟩
        have e2 : whole [(⟨some ⟨b28, 0, none⟩, 1, 1⟩, [hd0 f]), (x11, addHi (lenB f.data.length)), (⟨some (Addr.add ⟨b, 0, none⟩ 3), 4, 4⟩, f.key.l), (x26, turn f.key 0 f.data)] = frPut f := by
          simp [whole, frPut, hm]
        rw [e2] at h30 ⊢
        refine Tri.pick 1 rfl (Tri.drop (Tri.pick 1 rfl (Tri.drop (Tri.pick 1 rfl (Tri.drop (Tri.pick 1 rfl (Tri.drop (Tri.pick 1 rfl (Tri.drop (Tri.pick 1 rfl (Tri.drop ?_)))))))))))
        exact Tri.ret ⟨rfl, h30, rfl⟩
    · intro hm
      refine Tri.new fun b28 => ?_
      refine Tri.new fun b29 => ?_
      refine Tri.bnd (slices_Concat_spec (ss := [(⟨some ⟨b28, 0, none⟩, 1, 1⟩, [hd0 f]), (x11, lenB f.data.length), (Sl.nil, []), (x13, f.data)]) hK ?_ rfl ?_ (by simp) ?_) ?_
      · exact Rd.pts (o := 0) rfl (by simp) rfl
      · intro p hp
        simp only [List.mem_cons, List.not_mem_nil, or_false] at hp
        rcases hp with rfl | rfl | rfl | rfl
        · exact ⟨rfl, (Rd.lit (l := [hd0 f])).tail⟩
        · exact ⟨h2, Rd.row.tail.tail.tail⟩
        · exact ⟨rfl, Rd.nil rfl⟩
        · exact ⟨h13, Rd.row.tail.tail⟩
      · simp only [whole, List.flatMap_cons, List.flatMap_nil, List.length_append, List.length_cons, List.length_nil]; omega
      · rintro r L3 ⟨h30, rfl⟩
        have e2 : whole [(⟨some ⟨b28, 0, none⟩, 1, 1⟩, [hd0 f]), (x11, lenB f.data.length), (Sl.nil, []), (x13, f.data)] = frPut f := by
          simp [whole, frPut, hm]
        rw [e2] at h30 ⊢
        refine Tri.pick 1 rfl (Tri.drop (Tri.pick 1 rfl (Tri.drop (Tri.pick 1 rfl (Tri.drop (Tri.pick 1 rfl (Tri.drop (Tri.pick 1 rfl (Tri.drop ?_)))))))))
        exact Tri.ret ⟨rfl, h30, rfl⟩
  cases hf : f.fin with
  | true =>
    simp only [if_true, bnd_ret, bnd_bnd, bnd_ite, bnd_lt, bnd_ldB, bnd_ldI, bnd_ldS, bnd_ldP, bnd_ldSl, bnd_ldG, bnd_nn, bnd_ixA, bnd_st, bnd_drw, bnd_strOf, bnd_new, bnd_slS, bnd_slA, bnd_slStr, bnd_app, bnd_appS, bnd_appT, bnd_appZ, bnd_chk, bnd_mk, bnd_cpy, bnd_wld, bnd_agr, bnd_bytesOf, bnd_drw2, bnd_mrk, bnd_fail, sumK_inl, sumK_inr, bnd_inr]
    refine Tri.lt ?_
    have e2 : ([.int .u8 (orI .u8 (f.op : Int) 128)] : List Value) = [byt (hd0 f)] := by
      rw [or128 _ (by omega), byt_of (by omega)]; simp [hd0, hf]
    rw [e2]; rw [hf] at rest; exact rest _ _ _
  | false =>
    simp only [Bool.false_eq_true, if_false, bnd_ret, bnd_bnd, bnd_ite, bnd_lt, bnd_ldB, bnd_ldI, bnd_ldS, bnd_ldP, bnd_ldSl, bnd_ldG, bnd_nn, bnd_ixA, bnd_st, bnd_drw, bnd_strOf, bnd_new, bnd_slS, bnd_slA, bnd_slStr, bnd_app, bnd_appS, bnd_appT, bnd_appZ, bnd_chk, bnd_mk, bnd_cpy, bnd_wld, bnd_agr, bnd_bytesOf, bnd_drw2, bnd_mrk, bnd_fail, sumK_inl, sumK_inr, bnd_inr]
    have e2 : ([.int .u8 (f.op : Int)] : List Value) = [byt (hd0 f)] := by
      rw [byt_of (by omega)]; simp [hd0, hf]
    rw [e2]; rw [hf] at rest; exact rest _ _ _
end Go.Proofs.YtjdnjlnfcbaokaaGreat

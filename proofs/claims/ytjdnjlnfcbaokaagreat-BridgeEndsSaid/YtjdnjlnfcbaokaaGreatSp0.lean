/-
  SPECS, 0: bytes, numbers; mask. Own work.
-/
import Derived.Test.YtjdnjlnfcbaokaaGreatLgRow
import Derived.Test.YtjdnjlnfcbaokaaGreatFn0
import Derived.Test.YtjdnjlnfcbaokaaGreatFn1
import Derived.Test.YtjdnjlnfcbaokaaGreatFn2
import Derived.Test.YtjdnjlnfcbaokaaGreatFn3
import Derived.Test.YtjdnjlnfcbaokaaGreatFn4
import Derived.Test.YtjdnjlnfcbaokaaGreatFn5
import Derived.Test.YtjdnjlnfcbaokaaGreatFn6
import Derived.Test.YtjdnjlnfcbaokaaGreatFn7
import Derived.Test.YtjdnjlnfcbaokaaGreatFn8
import Derived.Test.YtjdnjlnfcbaokaaGreatFn9

set_option linter.unusedVariables false
set_option linter.unusedSimpArgs false
namespace Go.Proofs.YtjdnjlnfcbaokaaGreat
open Go Go.Lg
variable {α β σ τ : Type} {ρ : Hp} {L M : As} {K : Nat}

/-! ### 1. Bytes -/
def bl (l : List UInt8) : List Value := l.map byt
theorem bl_length (l : List UInt8) : (bl l).length = l.length := by simp [bl]
theorem bl_one (l : List UInt8) : (bl l).all one = true := by
  rw [List.all_eq_true]; intro x hx
  obtain ⟨y, _, rfl⟩ := List.mem_map.1 hx; rfl
theorem bl_get (l : List UInt8) (i : Nat) : (bl l)[i]? = l[i]?.map byt := by simp [bl]
theorem bl_drop (l : List UInt8) (i : Nat) : (bl l).drop i = bl (l.drop i) := by simp [bl, List.map_drop]
theorem bl_take (l : List UInt8) (i : Nat) : (bl l).take i = bl (l.take i) := by simp [bl, List.map_take]
theorem bl_append (l m : List UInt8) : bl (l ++ m) = bl l ++ bl m := by simp [bl]
theorem bytes_bl (t : ByteArray) : Lg.bytes t = bl t.data.toList := rfl
def ba (l : List UInt8) : ByteArray := ⟨l.toArray⟩
theorem bytes_ba (l : List UInt8) : Lg.bytes (ba l) = bl l := by simp [Lg.bytes, ba, bl]
theorem ba_size (l : List UInt8) : (ba l).size = l.length := by simp [ba, ByteArray.size]
theorem Rd.subB {s s' : Sl} {i n : Nat} {l : List UInt8} (h : SubS s s' 1 i n) (hr : Rd ρ L s 1 (bl l)) (hn : i + n ≤ s.n) : Rd ρ L s' 1 (bl ((l.drop i).take n)) := by
  have := h.rd hr hn
  rwa [Nat.mul_one, Nat.mul_one, bl_drop, bl_take] at this
theorem w64 {x : Int} (h0 : -9223372036854775808 ≤ x) (h1 : x ≤ 9223372036854775807) : IntKind.wrap .i64 x = x := wrap_id h0 h1
theorem wrU64 (n : Int) : IntKind.wrap .u64 n = n % 18446744073709551616 := by simp [IntKind.wrap, IntKind.bits, IntKind.signed]
theorem wrU32 (n : Int) : IntKind.wrap .u32 n = n % 4294967296 := by simp [IntKind.wrap, IntKind.bits, IntKind.signed]
theorem wrU8 (n : Int) : IntKind.wrap .u8 n = n % 256 := by simp [IntKind.wrap, IntKind.bits, IntKind.signed]
theorem wu64 {x : Int} (h0 : 0 ≤ x) (h1 : x ≤ 18446744073709551615) : IntKind.wrap .u64 x = x := by rw [wrU64]; omega
theorem andI_low (k : IntKind) (n m : Nat) (hk : n < 2 ^ k.bits) (hm : 2 ^ m ≤ 2 ^ k.bits) (hw : ∀ x : Nat, x < 2 ^ m → k.wrap (x : Int) = x) : andI k (n : Int) ((2 ^ m - 1 : Nat) : Int) = ((n % 2 ^ m : Nat) : Int) := by
  unfold andI
  have h1 : 2 ^ m - 1 < 2 ^ k.bits := by have := Nat.two_pow_pos m; omega
  simp only [BitVec.ofInt_natCast, BitVec.toNat_and, BitVec.toNat_ofNat, Nat.mod_eq_of_lt hk, Nat.mod_eq_of_lt h1, Nat.and_two_pow_sub_one_eq_mod]
  exact hw _ (Nat.mod_lt _ (Nat.two_pow_pos m))
theorem and3 (n : Nat) (h : n < 9223372036854775808) : andI .i64 (n : Int) 3 = ((n % 4 : Nat) : Int) :=
  andI_low .i64 n 2 (by simp [IntKind.bits]; omega) (by simp [IntKind.bits]) (fun x hx => w64 (by omega) (by omega))
theorem u8lt (b : UInt8) : b.toNat < 256 := b.toNat_lt
theorem u8all {p : Nat → Prop} (h : ∀ x : Fin 256, p x.val) (b : UInt8) : p b.toNat := h ⟨b.toNat, u8lt b⟩
theorem xor8 (a b : UInt8) : xorI .u8 (a.toNat : Int) (b.toNat : Int) = ((a ^^^ b).toNat : Int) := by
  unfold xorI
  have h1 := u8lt a
  have h2 := u8lt b
  have h3 : a.toNat ^^^ b.toNat < 2 ^ 8 := Nat.xor_lt_two_pow h1 h2
  show IntKind.wrap .u8 (((BitVec.ofInt 8 (a.toNat : Int) ^^^ BitVec.ofInt 8 (b.toNat : Int)).toNat : Nat) : Int) = _
  simp only [BitVec.ofInt_natCast, BitVec.toNat_xor, BitVec.toNat_ofNat, IntKind.bits, Nat.mod_eq_of_lt (show a.toNat < 2 ^ 8 from h1), Nat.mod_eq_of_lt (show b.toNat < 2 ^ 8 from h2), UInt8.toNat_xor, wrU8]
  omega
theorem splice_get {γ : Type} (cs l : List γ) (o j : Nat) (h : o + l.length ≤ cs.length) : (splice cs o l)[j]? = if j < o then cs[j]? else if j < o + l.length then l[j - o]? else cs[j]? := by
  unfold splice
  rw [List.append_assoc, List.getElem?_append, List.getElem?_append]
  simp only [List.length_take, Nat.min_eq_left (show o ≤ cs.length by omega), List.getElem?_take, List.getElem?_drop]
  by_cases c1 : j < o
  · simp [c1]
  · simp only [c1, if_false]
    by_cases c2 : j - o < l.length
    · simp only [c2, if_true, show j < o + l.length by omega]
    · simp only [c2, if_false, show ¬ j < o + l.length by omega]
      congr 1; omega
theorem bl_splice (c l : List UInt8) (o : Nat) : splice (bl c) o (bl l) = bl (splice c o l) := by simp [splice, bl, List.map_take, List.map_drop]
theorem splice_one (cs : List Value) (i : Nat) (v : Value) (h : i < cs.length) : splice cs i [v] = cs.set i v := by
  apply List.ext_getElem?
  intro j
  rw [splice_get _ _ _ _ (by simp; omega), List.getElem?_set]
  simp only [List.length_cons, List.length_nil]
  by_cases c1 : j < i
  · simp [c1, show ¬ i = j by omega]
  · by_cases c2 : j = i
    · subst c2; simp [h]
    · simp [c1, show ¬ j < i + 1 by omega, show ¬ i = j by omega]

/-! ### 2. mask -/
structure Key where
  e0 : UInt8
  e1 : UInt8
  e2 : UInt8
  e3 : UInt8
deriving DecidableEq
def Key.zero : Key := ⟨0, 0, 0, 0⟩
def Key.t (k : Key) : A4u8 := ⟨k.e0.toNat, k.e1.toNat, k.e2.toNat, k.e3.toNat⟩
def Key.l (k : Key) : List UInt8 := [k.e0, k.e1, k.e2, k.e3]
theorem Key.cells (k : Key) : Agg.cells k.t = bl k.l := rfl
def Key.at_ (k : Key) (i : Nat) : UInt8 := k.l.getD (i % 4) 0
/-- bytes turned by a mask -/
def turn (k : Key) (at_ : Nat) : List UInt8 → List UInt8
  | [] => []
  | b :: r => (b ^^^ k.at_ at_) :: turn k (at_ + 1) r
theorem turn_length (k : Key) : ∀ (l : List UInt8) (i : Nat), (turn k i l).length = l.length
  | [], _ => rfl
  | b :: r, i => by simp [turn, turn_length k r]
theorem turn_get (k : Key) : ∀ (l : List UInt8) (i j : Nat), (turn k i l)[j]? = l[j]?.map (· ^^^ k.at_ (i + j))
  | [], _, _ => by simp [turn]
  | b :: r, i, 0 => by simp [turn]
  | b :: r, i, j + 1 => by simp [turn, turn_get k r, Nat.add_assoc, Nat.add_comm 1]
theorem key_get (k : Key) (i : Nat) : (bl k.l)[i % 4]? = some (byt (k.at_ i)) := by
  have : i % 4 < 4 := Nat.mod_lt _ (by omega)
  rw [bl_get, Key.at_, List.getD_eq_getElem?_getD, List.getElem?_eq_getElem (by simpa [Key.l] using this)]
  rfl
def KBig (K : Nat) : Prop := 1152921504606846976 ≤ K
theorem mask_Apply_spec {k : Key} {at_ : Nat} {s : Sl} {l : List UInt8} (hK : KBig K) (ha : at_ < 4611686018427387904) (hr : Rd ρ L s 1 (bl l)) (hl : s.n = l.length) (hb : l.length ≤ 281474976710656) :
    Tri ρ L (mask_Apply K k.t at_ s) (fun r L' => r.n = l.length ∧ L' = row r 1 (bl (turn k at_ l)) :: L) := by
  unfold mask_Apply
  refine Tri.new fun b => ?_
  rw [Key.cells]
  refine Tri.mk s.n rfl rfl rfl (by omega) (by omega) fun s' hn hc hne => ?_
  refine Tri.lt ?_
  rw [and3 _ (by omega)]
  refine Tri.bnd (B := fun _ L' => L' = row s' 1 (bl (turn k at_ l)) :: pts b (bl k.l) :: L) ?_ ?_
  · refine Tri.loop (μ := fun (i : Int) => s.n - i.toNat) (I := fun (i : Int) L' => ∃ j : Nat, i = j ∧ j ≤ s.n ∧ ∃ z : List UInt8, z.length = s.n ∧ (∀ q, q < j → z[q]? = (turn k at_ l)[q]?) ∧ L' = row s' 1 (bl z) :: pts b (bl k.l) :: L) ?_ (by unfold KBig at hK; simp; omega) ⟨0, rfl, by omega, List.replicate s.n 0, by simp, by intro q hq; omega, by rw [zs_one]; simp [bl, byt]⟩
    rintro again i L' ⟨j, rfl, hj, z, hz, hq, rfl⟩ ih
    unfold mask_Apply_l0
    refine Tri.ite (fun hc => ?_) (fun hc => ?_)
    · have hj' : j < s.n := by simpa using hc
      have hjl : j < l.length := by omega
      refine Tri.drw (Tri.ixA (l := bl l) j hr.tail.tail rfl hj' (by intro e; have := congrArg List.length e; simp [bl] at this; subst this; simp at hjl) fun x hx => ?_)
      have hv : (bl l)[j]? = some (byt l[j]) := by rw [bl_get, List.getElem?_eq_getElem hjl]; rfl
      refine Tri.ldI (hx.cell hr.tail.tail hv hj') ?_
      have e1 : IntKind.wrap .i64 (((at_ % 4 : Nat) : Int) + (j : Int)) = ((at_ % 4 + j : Nat) : Int) := by rw [w64 (by omega) (by omega)]; omega
      rw [e1, and3 _ (by omega)]
      refine Tri.chk (by omega) ?_
      have e2 : (at_ % 4 + j) % 4 = (at_ + j) % 4 := by omega
      rw [e2, Int.toNat_natCast, Nat.mul_one, addr_add, Nat.zero_add]
      refine Tri.ldI (Cell.here (key_get k (at_ + j))).tail ?_
      refine Tri.ixA (l := bl z) j Rd.row rfl (by omega) (by intro e; have := congrArg List.length e; simp [bl] at this; subst this; simp at hz; omega) fun y hy => ?_
      refine Tri.stRow hy (by omega) rfl rfl rfl ?_
      rw [xor8, w64 (by omega) (by omega)]
      refine ih _ _ ⟨j + 1, by omega, by omega, z.set j (l[j] ^^^ k.at_ (at_ + j)), by simpa using hz, ?_, ?_⟩ (by omega)
      · intro q hq'
        rw [List.getElem?_set]
        by_cases e : j = q
        · subst e
          rw [if_pos rfl, if_pos (by omega), turn_get, List.getElem?_eq_getElem hjl]; rfl
        · rw [if_neg e]; exact hq q (by omega)
      · rw [Nat.mul_one]
        have : (Value.int IntKind.u8 ((l[j] ^^^ k.at_ (at_ + j)).toNat : Int)).cells.toList = [byt (l[j] ^^^ k.at_ (at_ + j))] := rfl
        rw [this, splice_one _ _ _ (by rw [bl_length]; omega)]
        simp [bl, List.map_set]
    · have hj' : j = s.n := by simp at hc; omega
      refine Tri.ret ?_
      have : z = turn k at_ l := by
        apply List.ext_getElem?
        intro q
        by_cases hq' : q < j
        · exact hq q hq'
        · rw [List.getElem?_eq_none (by omega), List.getElem?_eq_none (by rw [turn_length]; omega)]
      rw [this]
  · rintro _ _ rfl
    exact Tri.pick 1 rfl (Tri.drop (Tri.ret ⟨by omega, rfl⟩))
end Go.Proofs.YtjdnjlnfcbaokaaGreat

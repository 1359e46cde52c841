/-
  SPECS, 7: utf, close. Own work.
-/
import Derived.Test.YtjdnjlnfcbaokaaGreatSp6
set_option linter.unusedVariables false
set_option linter.unusedSimpArgs false
set_option maxRecDepth 20000
namespace Go.Proofs.YtjdnjlnfcbaokaaGreat
open Go Go.Lg
variable {α β σ τ : Type} {ρ : Hp} {L M : As} {K : Nat}

/-! ### 1. utf -/
structure Ut where
  left : Nat
  lo : Nat
  hi : Nat
  count : Int
  bad : Bool
def Ut.zero : Ut := ⟨0, 0, 0, 0, false⟩
def utC (u : Ut) : List Value := [.int .i64 u.left, .int .u8 u.lo, .int .u8 u.hi, .int .i64 u.count, .bool u.bad]
def utBegin (u : Ut) (b : UInt8) : Ut × Bool :=
  let n := b.toNat
  if n < 128 then ({ u with lo := 128, hi := 191, count := IntKind.wrap .i64 (u.count + 1) }, true)
  else if 194 ≤ n ∧ n ≤ 223 then ({ u with left := 1, lo := 128, hi := 191 }, true)
  else if 224 ≤ n ∧ n ≤ 239 then ({ u with left := 2, lo := if n = 224 then 160 else 128, hi := if n = 237 then 159 else 191 }, true)
  else if 240 ≤ n ∧ n ≤ 244 then ({ u with left := 3, lo := if n = 240 then 144 else 128, hi := if n = 244 then 143 else 191 }, true)
  else ({ u with lo := 128, hi := 191 }, false)
def utTake (u : Ut) (b : UInt8) : Ut × Bool :=
  if u.left = 0 then utBegin u b
  else if b.toNat < u.lo ∨ u.hi < b.toNat then (u, false)
  else ({ u with lo := 128, hi := 191, left := u.left - 1, count := if u.left - 1 = 0 then IntKind.wrap .i64 (u.count + 1) else u.count }, true)
def utFeed (u : Ut) : List UInt8 → Ut
  | [] => u
  | b :: r => if u.bad = true then u else if (utTake u b).2 = false then { (utTake u b).1 with bad := true } else utFeed (utTake u b).1 r
def utValid (l : List UInt8) : Bool := !(utFeed Ut.zero l).bad && (utFeed Ut.zero l).left == 0
theorem utf_New_spec : Tri ρ L (utf_New K) (fun r L' => ∃ b, r = some ⟨b, 0, none⟩ ∧ L' = pts b (utC Ut.zero) :: L) := by
  unfold utf_New
  refine Tri.new fun b => Tri.ret ⟨b, rfl, rfl⟩
theorem begin_spec {c : Nat} {u : Ut} {b : UInt8} : Tri ρ (pts c (utC u) :: L) (utf_Checker_begin K (some ⟨c, 0, none⟩) b.toNat) (fun r L' => r = (utBegin u b).2 ∧ L' = pts c (utC (utBegin u b).1) :: L) := by
  unfold utf_Checker_begin
  refine Tri.nn ?_
  rw [addr_add, Nat.zero_add]
  refine Tri.stB (l := [.int .u8 128, .int .u8 191]) (by rfl) (by simp [utC]) rfl ?_
  have e1 : splice (utC u) 1 [.int .u8 128, .int .u8 191] = utC { u with lo := 128, hi := 191 } := rfl
  rw [e1]
  refine Tri.lt ?_
  by_cases h1 : b.toNat < 128
  · have hd : decide ((b.toNat : Int) < 128) = true := by simp; omega
    rw [hd]
    simp only [if_true]
    refine Tri.nn (Tri.ldI (Cell.here (i := 3) rfl) (Tri.nn ?_))
    refine Tri.stB (i := 3) (l := [.int .i64 (IntKind.wrap .i64 (u.count + 1))]) (by rfl) (by simp [utC]) rfl ?_
    have hb : utBegin u b = ({ u with lo := 128, hi := 191, count := IntKind.wrap .i64 (u.count + 1) }, true) := by simp only [utBegin, h1, if_true]
    rw [hb]
    exact Tri.ret ⟨rfl, rfl⟩
  · have hd : decide ((b.toNat : Int) < 128) = false := by simp; omega
    rw [hd]
    simp only [Bool.false_eq_true, if_false]
    have fin : ∀ (left : Nat), (194 ≤ b.toNat ∧ b.toNat ≤ 223 ∧ left = 1 ∨ 224 ≤ b.toNat ∧ b.toNat ≤ 239 ∧ left = 2 ∨ 240 ≤ b.toNat ∧ b.toNat ≤ 244 ∧ left = 3) →
      Tri ρ (pts c (utC { u with left := left, lo := 128, hi := 191 }) :: L)
        (lt ((b.toNat : Int) == (224 : Int)) fun x18 => bnd (if x18 = true then nn (some (⟨c, 0, none⟩ : Addr)) fun x26 => st ((x26.add 1).add ((0 : Int).toNat * 1)) (.int .u8 (160 : Int)) <| ret ()
          else lt ((b.toNat : Int) == (237 : Int)) fun x27 => if x27 = true then nn (some (⟨c, 0, none⟩ : Addr)) fun x28 => st ((x28.add 1).add ((1 : Int).toNat * 1)) (.int .u8 (159 : Int)) <| ret ()
          else lt ((b.toNat : Int) == (240 : Int)) fun x29 => if x29 = true then nn (some (⟨c, 0, none⟩ : Addr)) fun x30 => st ((x30.add 1).add ((0 : Int).toNat * 1)) (.int .u8 (144 : Int)) <| ret ()
          else lt ((b.toNat : Int) == (244 : Int)) fun x31 => if x31 = true then nn (some (⟨c, 0, none⟩ : Addr)) fun x32 => st ((x32.add 1).add ((1 : Int).toNat * 1)) (.int .u8 (143 : Int)) <| ret () else ret ()) fun (s33 : Unit) => ret true)
        (fun r L' => r = (utBegin u b).2 ∧ L' = pts c (utC (utBegin u b).1) :: L) := by
      intro left hl
      have hu : utBegin u b = ({ u with left := left, lo := if b.toNat = 224 then 160 else if b.toNat = 240 then 144 else 128, hi := if b.toNat = 237 then 159 else if b.toNat = 244 then 143 else 191 }, true) := by
        simp only [utBegin, h1, if_false]
        rcases hl with ⟨h2, h3, rfl⟩ | ⟨h2, h3, rfl⟩ | ⟨h2, h3, rfl⟩
        · rw [if_pos ⟨h2, h3⟩, if_neg (by omega), if_neg (by omega), if_neg (by omega), if_neg (by omega)]
        · rw [if_neg (by omega), if_pos ⟨h2, h3⟩]
          rw [if_neg (show ¬ b.toNat = 240 by omega), if_neg (show ¬ b.toNat = 244 by omega)]
        · rw [if_neg (by omega), if_neg (by omega), if_pos ⟨h2, h3⟩]
          rw [if_neg (show ¬ b.toNat = 224 by omega), if_neg (show ¬ b.toNat = 237 by omega)]
      rw [hu]
      refine Tri.lt ?_
      simp only [bnd_ret, bnd_bnd, bnd_ite, bnd_lt, bnd_ldB, bnd_ldI, bnd_ldS, bnd_ldP, bnd_ldSl, bnd_ldG, bnd_nn, bnd_ixA, bnd_st, bnd_drw, bnd_strOf, bnd_new, bnd_slS, bnd_slA, bnd_slStr, bnd_app, bnd_appS, bnd_appT, bnd_appZ, bnd_chk, bnd_mk, bnd_cpy, bnd_wld, bnd_agr, bnd_bytesOf, bnd_drw2, bnd_mrk, bnd_fail, sumK_inl, sumK_inr, bnd_inr]
      by_cases q1 : b.toNat = 224
      · have hq : ((b.toNat : Int) == 224) = true := by simp; omega
        rw [hq, q1]
        refine Tri.nn ?_
        refine Tri.stB (i := 1) (l := [.int .u8 160]) (by rfl) (by simp [utC]) rfl ?_
        exact Tri.ret ⟨rfl, rfl⟩
      · have hq : ((b.toNat : Int) == 224) = false := by simp; omega
        rw [hq, if_neg q1]
        refine Tri.lt ?_
        by_cases q2 : b.toNat = 237
        · have hq2 : ((b.toNat : Int) == 237) = true := by simp; omega
          rw [hq2, q2]
          refine Tri.nn ?_
          refine Tri.stB (i := 2) (l := [.int .u8 159]) (by rfl) (by simp [utC]) rfl ?_
          exact Tri.ret ⟨rfl, rfl⟩
        · have hq2 : ((b.toNat : Int) == 237) = false := by simp; omega
          rw [hq2, if_neg q2]
          refine Tri.lt ?_
          by_cases q3 : b.toNat = 240
          · have hq3 : ((b.toNat : Int) == 240) = true := by simp; omega
            rw [hq3, q3]
            refine Tri.nn ?_
            refine Tri.stB (i := 1) (l := [.int .u8 144]) (by rfl) (by simp [utC]) rfl ?_
            exact Tri.ret ⟨rfl, rfl⟩
          · have hq3 : ((b.toNat : Int) == 240) = false := by simp; omega
            rw [hq3, if_neg q3]
            refine Tri.lt ?_
            by_cases q4 : b.toNat = 244
            · have hq4 : ((b.toNat : Int) == 244) = true := by simp; omega
              rw [hq4, q4]
              refine Tri.nn ?_
              refine Tri.stB (i := 2) (l := [.int .u8 143]) (by rfl) (by simp [utC]) rfl ?_
              exact Tri.ret ⟨rfl, rfl⟩
            · have hq4 : ((b.toNat : Int) == 244) = false := by simp; omega
              rw [hq4, if_neg q4]
              exact Tri.ret ⟨rfl, rfl⟩
    have btw : ∀ (x y : Nat) {L' : As}, Tri ρ L' (if decide ((x : Int) ≤ (b.toNat : Int)) = true then ret (decide ((b.toNat : Int) ≤ (y : Int))) else ret false) (fun r L'' => r = decide (x ≤ b.toNat ∧ b.toNat ≤ y) ∧ L'' = L') := by
      intro x y L'
      refine Tri.ite ?_ ?_
      · intro h
        have h' : x ≤ b.toNat := by simp at h; omega
        refine Tri.ret ⟨?_, rfl⟩
        rw [Bool.eq_iff_iff]; simp [h']
      · intro h
        have h' : ¬ x ≤ b.toNat := by simp at h; omega
        refine Tri.ret ⟨?_, rfl⟩
        rw [Bool.eq_iff_iff]; simp [h']
    refine Tri.bnd (btw 194 223) ?_
    rintro _ _ ⟨rfl, rfl⟩
    by_cases h2 : 194 ≤ b.toNat ∧ b.toNat ≤ 223
    · rw [decide_eq_true h2]
      simp only [if_true, bnd_nn, bnd_st, bnd_ret, sumK_inl]
      refine Tri.nn ?_
      refine Tri.stB (i := 0) (l := [.int .i64 1]) (by rfl) (by simp [utC]) rfl ?_
      exact fin 1 (.inl ⟨h2.1, h2.2, rfl⟩)
    · rw [decide_eq_false h2]
      simp only [Bool.false_eq_true, if_false]
      show Tri ρ _ (bnd (bnd _ _) _) _
      rw [bnd_bnd]
      refine Tri.bnd (btw 224 239) ?_
      rintro _ _ ⟨rfl, rfl⟩
      by_cases h3 : 224 ≤ b.toNat ∧ b.toNat ≤ 239
      · rw [decide_eq_true h3]
        simp only [if_true, bnd_nn, bnd_st, bnd_ret, sumK_inl]
        refine Tri.nn ?_
        refine Tri.stB (i := 0) (l := [.int .i64 2]) (by rfl) (by simp [utC]) rfl ?_
        exact fin 2 (.inr (.inl ⟨h3.1, h3.2, rfl⟩))
      · rw [decide_eq_false h3]
        simp only [Bool.false_eq_true, if_false]
        rw [bnd_bnd]
        refine Tri.bnd (btw 240 244) ?_
        rintro _ _ ⟨rfl, rfl⟩
        by_cases h4 : 240 ≤ b.toNat ∧ b.toNat ≤ 244
        · rw [decide_eq_true h4]
          simp only [if_true, bnd_nn, bnd_st, bnd_ret, sumK_inl]
          refine Tri.nn ?_
          refine Tri.stB (i := 0) (l := [.int .i64 3]) (by rfl) (by simp [utC]) rfl ?_
          exact fin 3 (.inr (.inr ⟨h4.1, h4.2, rfl⟩))
        · rw [decide_eq_false h4]
          simp only [Bool.false_eq_true, if_false, bnd_inr]
          have hu : utBegin u b = ({ u with lo := 128, hi := 191 }, false) := by
            simp only [utBegin, h1, h2, h3, h4, if_false]
          rw [hu]
          exact Tri.ret ⟨rfl, rfl⟩
theorem utake_spec {c : Nat} {u : Ut} {b : UInt8} (hl : u.left ≤ 3) : Tri ρ (pts c (utC u) :: L) (utf_Checker_take K (some ⟨c, 0, none⟩) b.toNat) (fun r L' => r = (utTake u b).2 ∧ L' = pts c (utC (utTake u b).1) :: L) := by
  unfold utf_Checker_take
  refine Tri.nn (Tri.ldI (Cell.here (i := 0) rfl) ?_)
  by_cases h0 : u.left = 0
  · have hd : ((u.left : Int) == 0) = true := by simp; omega
    rw [hd]
    simp only [if_true]
    have hu : utTake u b = utBegin u b := by simp [utTake, h0]
    rw [hu]
    exact Tri.bnd begin_spec fun r L' h => Tri.ret h
  · have hd : ((u.left : Int) == 0) = false := by simp; omega
    rw [hd]
    simp only [Bool.false_eq_true, if_false]
    refine Tri.nn (Tri.ldI (Cell.here (i := 1) rfl) ?_)
    refine Tri.val (decide (b.toNat < u.lo ∨ u.hi < b.toNat)) ?_ ?_
    · refine Tri.ite ?_ ?_
      · intro h
        have h' : b.toNat < u.lo := by simp at h; omega
        exact Tri.ret ⟨by simp [h'], rfl⟩
      · intro h
        have h' : ¬ b.toNat < u.lo := by simp at h; omega
        refine Tri.nn (Tri.ldI (Cell.here (i := 2) rfl) (Tri.ret ⟨?_, rfl⟩))
        rw [Bool.eq_iff_iff]; simp [h']
    by_cases h2 : b.toNat < u.lo ∨ u.hi < b.toNat
    · rw [decide_eq_true h2]
      simp only [if_true]
      have hu : utTake u b = (u, false) := by simp [utTake, h0, h2]
      rw [hu]
      exact Tri.ret ⟨rfl, rfl⟩
    · rw [decide_eq_false h2]
      simp only [Bool.false_eq_true, if_false]
      refine Tri.nn ?_
      refine Tri.stB (i := 1) (l := [.int .u8 128, .int .u8 191]) (by rfl) (by simp [utC]) rfl ?_
      have e1 : splice (utC u) 1 [.int .u8 128, .int .u8 191] = utC { u with lo := 128, hi := 191 } := rfl
      rw [e1]
      refine Tri.nn (Tri.ldI (Cell.here (i := 0) rfl) (Tri.nn ?_))
      have e2 : IntKind.wrap .i64 ((u.left : Int) - 1) = ((u.left - 1 : Nat) : Int) := by rw [w64 (by omega) (by omega)]; omega
      rw [e2]
      refine Tri.stB (i := 0) (l := [.int .i64 ((u.left - 1 : Nat) : Int)]) (by rfl) (by simp [utC]) rfl ?_
      have e3 : splice (utC { u with lo := 128, hi := 191 }) 0 [.int .i64 ((u.left - 1 : Nat) : Int)] = utC { u with lo := 128, hi := 191, left := u.left - 1 } := rfl
      rw [e3]
      refine Tri.nn (Tri.ldI (Cell.here (i := 0) rfl) ?_)
      have hu : utTake u b = ({ u with lo := 128, hi := 191, left := u.left - 1, count := if u.left - 1 = 0 then IntKind.wrap .i64 (u.count + 1) else u.count }, true) := by simp only [utTake, h0, h2, if_false]
      rw [hu]
      simp only [bnd_ret, bnd_bnd, bnd_ite, bnd_lt, bnd_ldB, bnd_ldI, bnd_ldS, bnd_ldP, bnd_ldSl, bnd_ldG, bnd_nn, bnd_ixA, bnd_st, bnd_drw, bnd_strOf, bnd_new, bnd_slS, bnd_slA, bnd_slStr, bnd_app, bnd_appS, bnd_appT, bnd_appZ, bnd_chk, bnd_mk, bnd_cpy, bnd_wld, bnd_agr, bnd_bytesOf, bnd_drw2, bnd_mrk, bnd_fail, sumK_inl, sumK_inr, bnd_inr]
      by_cases h3 : u.left - 1 = 0
      · have hd : (((u.left - 1 : Nat) : Int) == 0) = true := by simp; omega
        rw [hd, if_pos h3]
        simp only [if_true]
        refine Tri.nn (Tri.ldI (Cell.here (i := 3) rfl) (Tri.nn ?_))
        refine Tri.stB (i := 3) (l := [.int .i64 (IntKind.wrap .i64 (u.count + 1))]) (by rfl) (by simp [utC]) rfl ?_
        exact Tri.ret ⟨rfl, rfl⟩
      · have hd : (((u.left - 1 : Nat) : Int) == 0) = false := by simp; omega
        rw [hd, if_neg h3]
        exact Tri.ret ⟨rfl, rfl⟩
theorem utTake_left {u : Ut} {b : UInt8} (h : u.left ≤ 3) : (utTake u b).1.left ≤ 3 := by
  unfold utTake
  split
  · unfold utBegin; dsimp only
    split
    · exact h
    · split
      · show (1 : Nat) ≤ 3; omega
      · split
        · show (2 : Nat) ≤ 3; omega
        · split
          · show (3 : Nat) ≤ 3; omega
          · exact h
  · split
    · exact h
    · show u.left - 1 ≤ 3; omega
theorem utFeed_left {l : List UInt8} : ∀ {u : Ut}, u.left ≤ 3 → (utFeed u l).left ≤ 3 := by
  induction l with
  | nil => intro u h; exact h
  | cons b r ih =>
    intro u h
    simp only [utFeed]
    split
    · exact h
    · split
      · exact utTake_left h
      · exact ih (utTake_left h)
theorem utFeed_spec {c : Nat} {u : Ut} {s : Sl} {l : List UInt8} (hK : KBig K) (hl : u.left ≤ 3) (hr : Rd ρ L s 1 (bl l)) (hn : s.n = l.length) (hb : l.length ≤ 1099511627776) :
    Tri ρ (pts c (utC u) :: L) (utf_Checker_Feed K (some ⟨c, 0, none⟩) s) (fun r L' => L' = pts c (utC (utFeed u l)) :: L) := by
  unfold utf_Checker_Feed
  refine Tri.bndS (D := fun _ L' => L' = pts c (utC (utFeed u l)) :: L) ?_ ?_
  · refine Tri.loop (μ := fun (i : Int) => l.length - i.toNat) (I := fun (i : Int) L' => ∃ (j : Nat) (v : Ut), i = j ∧ j ≤ l.length ∧ v.left ≤ 3 ∧ utFeed u l = utFeed v (l.drop j) ∧ L' = pts c (utC v) :: L) ?_ (by unfold KBig at hK; simp; omega) ⟨0, u, rfl, by omega, hl, by simp, rfl⟩
    rintro again i L' ⟨j, v, rfl, hj, hv, he, rfl⟩ ih
    unfold utf_Checker_Feed_l0
    refine Tri.ite ?_ ?_
    · intro hc
      have hj' : j < l.length := by simp at hc; omega
      have hd : l.drop j = l[j] :: l.drop (j + 1) := List.drop_eq_getElem_cons hj'
      rw [hd] at he
      simp only [utFeed] at he
      have hvj : (bl l)[j]? = some (byt l[j]) := by rw [bl_get, List.getElem?_eq_getElem hj']; rfl
      refine Tri.ixA j hr.tail rfl (by omega) (by intro e; rw [e] at hvj; simp at hvj) fun x hx => ?_
      refine Tri.ldI (hx.cell hr.tail hvj (by omega)) (Tri.nn (Tri.ldB (Cell.here (i := 4) rfl) ?_))
      refine Tri.bnd (B := fun r L' => r = (v.bad || !(utTake v l[j]).2) ∧ L' = pts c (utC (if v.bad = true then v else (utTake v l[j]).1)) :: L) ?_ ?_
      · refine Tri.ite ?_ ?_
        · intro h; rw [h]; exact Tri.ret ⟨rfl, rfl⟩
        · intro h; rw [h]
          refine Tri.bnd (utake_spec hv) ?_
          rintro _ _ ⟨rfl, rfl⟩
          exact Tri.ret ⟨rfl, rfl⟩
      · rintro _ _ ⟨rfl, rfl⟩
        refine Tri.ite ?_ ?_
        · intro h
          refine Tri.nn ?_
          refine Tri.stB (i := 4) (l := [.bool true]) (by rfl) (by simp [utC]) rfl ?_
          refine Tri.inr (Tri.ret ?_)
          rw [he]
          by_cases hb : v.bad = true
          · rw [if_pos hb, if_pos hb]
            obtain ⟨a1, a2, a3, a4, a5⟩ := v
            simp only at hb; subst hb; rfl
          · rw [if_neg hb, if_neg hb]
            have : (utTake v l[j]).2 = false := by simpa [hb] using h
            rw [if_pos this]; rfl
        · intro h
          simp only [Bool.or_eq_false_iff, Bool.not_eq_false'] at h
          rw [if_neg (by simp [h.1]), if_neg (by simp [h.2])] at he
          rw [w64 (by omega) (by omega), if_neg (by simp [h.1])]
          exact ih _ _ ⟨j + 1, (utTake v l[j]).1, by simp, by omega, utTake_left hv, he, rfl⟩ (by simp; omega)
    · intro hc
      have hj' : l.length ≤ j := by simp at hc; omega
      rw [List.drop_eq_nil_of_le hj'] at he
      refine Tri.ret ?_
      rw [he]; rfl
  · rintro _ _ rfl
    exact Tri.lt (Tri.ret rfl)
theorem whole_spec {c : Nat} {u : Ut} : Tri ρ (pts c (utC u) :: L) (utf_Checker_Whole K (some ⟨c, 0, none⟩)) (fun r L' => r = (!u.bad && u.left == 0) ∧ L' = pts c (utC u) :: L) := by
  unfold utf_Checker_Whole
  refine Tri.nn (Tri.ldB (Cell.here (i := 4) rfl) ?_)
  simp only [bnd_ret, bnd_bnd, bnd_ite, bnd_lt, bnd_ldB, bnd_ldI, bnd_ldS, bnd_ldP, bnd_ldSl, bnd_ldG, bnd_nn, bnd_ixA, bnd_st, bnd_drw, bnd_strOf, bnd_new, bnd_slS, bnd_slA, bnd_slStr, bnd_app, bnd_appS, bnd_appT, bnd_appZ, bnd_chk, bnd_mk, bnd_cpy, bnd_wld, bnd_agr, bnd_bytesOf, bnd_drw2, bnd_mrk, bnd_fail, sumK_inl, sumK_inr, bnd_inr]
  refine Tri.ite ?_ ?_
  · intro h
    refine Tri.nn (Tri.ldI (Cell.here (i := 0) rfl) (Tri.ret ⟨?_, rfl⟩))
    rw [h, Bool.true_and]; exact beqI u.left 0
  · intro h; rw [h]; exact Tri.ret ⟨rfl, rfl⟩
theorem valid_spec {s : Sl} {l : List UInt8} (hK : KBig K) (hr : Rd ρ L s 1 (bl l)) (hn : s.n = l.length) (hb : l.length ≤ 1099511627776) : Tri ρ L (utf_Valid K s) (fun r L' => r = utValid l ∧ L' = L) := by
  unfold utf_Valid utf_Count
  simp only [bnd_ret, bnd_bnd, bnd_ite, bnd_lt, bnd_ldB, bnd_ldI, bnd_ldS, bnd_ldP, bnd_ldSl, bnd_ldG, bnd_nn, bnd_ixA, bnd_st, bnd_drw, bnd_strOf, bnd_new, bnd_slS, bnd_slA, bnd_slStr, bnd_app, bnd_appS, bnd_appT, bnd_appZ, bnd_chk, bnd_mk, bnd_cpy, bnd_wld, bnd_agr, bnd_bytesOf, bnd_drw2, bnd_mrk, bnd_fail, sumK_inl, sumK_inr, bnd_inr]
  refine Tri.bnd utf_New_spec ?_
  rintro _ _ ⟨c, rfl, rfl⟩
  refine Tri.bnd (utFeed_spec hK (by decide) hr hn hb) ?_
  rintro _ _ rfl
  refine Tri.bnd whole_spec ?_
  rintro _ _ ⟨rfl, rfl⟩
  refine Tri.ite ?_ ?_
  · intro h
    refine Tri.drop (Tri.ret ⟨?_, rfl⟩)
    rw [Bool.not_eq_true'] at h
    exact h.symm
  · intro h
    refine Tri.nn (Tri.ldI (Cell.here (i := 3) rfl) (Tri.drop (Tri.ret ⟨?_, rfl⟩)))
    rw [Bool.not_eq_false'] at h
    exact h.symm

/-! ### 2. close -/
def validC (c : Int) : Bool := decide (1000 ≤ c ∧ c ≤ 1003) || decide (1007 ≤ c ∧ c ≤ 1011) || decide (3000 ≤ c ∧ c ≤ 4999)
theorem valid1_spec {x : Nat} {c lo hi : Int} : Tri ρ (pts x [.int .i64 c] :: L) (close_Valid_1 K lo hi ⟨x, 0, none⟩) (fun r L' => r = decide (lo ≤ c ∧ c ≤ hi) ∧ L' = pts x [.int .i64 c] :: L) := by
  unfold close_Valid_1
  simp only [bnd_ret, bnd_bnd, bnd_ite, bnd_lt, bnd_ldB, bnd_ldI, bnd_ldS, bnd_ldP, bnd_ldSl, bnd_ldG, bnd_nn, bnd_ixA, bnd_st, bnd_drw, bnd_strOf, bnd_new, bnd_slS, bnd_slA, bnd_slStr, bnd_app, bnd_appS, bnd_appT, bnd_appZ, bnd_chk, bnd_mk, bnd_cpy, bnd_wld, bnd_agr, bnd_bytesOf, bnd_drw2, bnd_mrk, bnd_fail, sumK_inl, sumK_inr, bnd_inr]
  refine Tri.ldI (Cell.here (i := 0) rfl) (Tri.ite ?_ ?_)
  · intro h
    have h' : lo ≤ c := by simpa using h
    refine Tri.ldI (Cell.here (i := 0) rfl) (Tri.ret ⟨?_, rfl⟩)
    rw [Bool.eq_iff_iff]; simp [h']
  · intro h
    have h' : ¬ lo ≤ c := by simpa using h
    refine Tri.ret ⟨?_, rfl⟩
    rw [Bool.eq_iff_iff]; simp [h']
theorem validC_spec {c : Int} : Tri ρ L (close_Valid K c) (fun r L' => r = validC c ∧ L' = L) := by
  unfold close_Valid
  refine Tri.new fun x => ?_
  refine Tri.bnd valid1_spec ?_
  rintro _ _ ⟨rfl, rfl⟩
  refine Tri.val (decide (1000 ≤ c ∧ c ≤ 1003) || decide (1007 ≤ c ∧ c ≤ 1011)) ?_ ?_
  · refine Tri.ite ?_ ?_
    · intro h; rw [h]; exact Tri.ret ⟨rfl, rfl⟩
    · intro h; rw [h]
      refine Tri.bnd valid1_spec ?_
      rintro _ _ ⟨rfl, rfl⟩
      exact Tri.ret ⟨rfl, rfl⟩
  simp only [bnd_ret, bnd_bnd, bnd_ite, bnd_lt, bnd_ldB, bnd_ldI, bnd_ldS, bnd_ldP, bnd_ldSl, bnd_ldG, bnd_nn, bnd_ixA, bnd_st, bnd_drw, bnd_strOf, bnd_new, bnd_slS, bnd_slA, bnd_slStr, bnd_app, bnd_appS, bnd_appT, bnd_appZ, bnd_chk, bnd_mk, bnd_cpy, bnd_wld, bnd_agr, bnd_bytesOf, bnd_drw2, bnd_mrk, bnd_fail, sumK_inl, sumK_inr, bnd_inr]
  refine Tri.ite ?_ ?_
  · intro h
    exact Tri.drop (Tri.ret ⟨by unfold validC; rw [h]; rfl, rfl⟩)
  · intro h
    refine Tri.bnd valid1_spec ?_
    rintro _ _ ⟨rfl, rfl⟩
    exact Tri.drop (Tri.ret ⟨by unfold validC; rw [h]; rfl, rfl⟩)
theorem ba_toList (l : List UInt8) : (ba l).toList = l := by rw [ByteArray.toList_eq]; rfl
theorem sEq_ba (a b : List UInt8) : sEq (ba a) (ba b) = (a == b) := by unfold sEq; rw [ba_toList, ba_toList]
theorem ba_nil : ByteArray.mk #[] = ba [] := rfl
theorem bt_ba (l : List UInt8) (i : Nat) (h : i < l.length) : bt (ba l) (i : Int) = ((l.getD i 0).toNat : Int) := by
  unfold bt
  rw [dif_pos (by rw [ba_size]; exact h)]
  rw [List.getD_eq_getElem?_getD, List.getElem?_eq_getElem h]
  rfl
theorem ba_extract (l : List UInt8) (i j : Nat) : (ba l).extract i j = ba ((l.drop i).take (j - i)) := by
  apply ByteArray.ext
  simp [ba, ByteArray.data_extract, List.extract_eq_take_drop]
theorem ba_append (a b : List UInt8) : ba a ++ ba b = ba (a ++ b) := by
  apply ByteArray.ext
  simp [ba]
/-- an end's code and words -/
def closeGet (d : List UInt8) : Nat × List UInt8 × Nat :=
  if d = [] then (1005, [], 0) else if d.length < 2 ∨ 125 < d.length then (0, [], 110) else
  let c := (d.getD 0 0).toNat * 256 + (d.getD 1 0).toNat
  if validC c = false then (0, [], 110) else if utValid (d.drop 2) = false then (0, [], 111) else (c, d.drop 2, 0)
theorem or_sh (a b : UInt8) : orI .i64 (shlI .i64 (IntKind.wrap .i64 (a.toNat : Int)) 8) (IntKind.wrap .i64 (b.toNat : Int)) = ((a.toNat * 256 + b.toNat : Nat) : Int) := by
  have ha := u8lt a
  have hb := u8lt b
  rw [w64 (x := (a.toNat : Int)) (by omega) (by omega), w64 (x := (b.toNat : Int)) (by omega) (by omega)]
  have e1 : shlI .i64 (a.toNat : Int) 8 = ((a.toNat * 256 : Nat) : Int) := by
    unfold shlI
    have : (min (8 : Int).toNat (IntKind.bits .i64)) = 8 := by decide
    rw [this, w64 (by omega) (by omega)]; omega
  rw [e1]
  unfold orI
  show IntKind.wrap .i64 (((BitVec.ofInt 64 ((a.toNat * 256 : Nat) : Int) ||| BitVec.ofInt 64 (b.toNat : Int)).toNat : Nat) : Int) = _
  simp only [BitVec.ofInt_natCast, BitVec.toNat_or, BitVec.toNat_ofNat]
  rw [Nat.mod_eq_of_lt (show a.toNat * 256 < 2 ^ 64 by omega), Nat.mod_eq_of_lt (show b.toNat < 2 ^ 64 by omega)]
  have e2 : a.toNat * 256 ||| b.toNat = a.toNat * 256 + b.toNat := by
    have := Nat.shiftLeft_add_eq_or_of_lt (show b.toNat < 2 ^ 8 from hb) a.toNat
    rw [Nat.shiftLeft_eq] at this
    exact this.symm
  rw [e2, w64 (by omega) (by omega)]
theorem close_Get_spec {d : List UInt8} (hK : KBig K) (hb : d.length ≤ 1099511627776) : Tri ρ L (close_Get K (ba d)) (fun r L' => r = (((closeGet d).1 : Int), ba (closeGet d).2.1, ((closeGet d).2.2 : Int)) ∧ L' = L) := by
  unfold close_Get
  refine Tri.lt ?_
  rw [ba_nil, sEq_ba]
  by_cases h0 : d = []
  · subst h0
    exact Tri.ret ⟨rfl, rfl⟩
  have hd0 : (d == []) = false := by simpa using h0
  rw [hd0]
  simp only [Bool.false_eq_true, if_false]
  refine Tri.val (decide (d.length < 2 ∨ 125 < d.length)) ?_ ?_
  · rw [ba_size]
    refine Tri.ite ?_ ?_
    · intro h
      have h' : d.length < 2 := by simp at h; omega
      exact Tri.ret ⟨by simp [h'], rfl⟩
    · intro h
      have h' : ¬ d.length < 2 := by simp at h; omega
      refine Tri.ret ⟨?_, rfl⟩
      rw [Bool.eq_iff_iff]; simp [h']; omega
  by_cases h1 : d.length < 2 ∨ 125 < d.length
  · rw [decide_eq_true h1]
    have hg : closeGet d = (0, [], 110) := by simp only [closeGet, h0, if_false, h1, if_true]
    rw [hg]
    exact Tri.ret ⟨rfl, rfl⟩
  · rw [decide_eq_false h1]
    simp only [Bool.false_eq_true, if_false]
    have hg : closeGet d = if validC (((d.getD 0 0).toNat * 256 + (d.getD 1 0).toNat : Nat) : Int) = false then (0, [], 110) else if utValid (d.drop 2) = false then (0, [], 111) else ((d.getD 0 0).toNat * 256 + (d.getD 1 0).toNat, d.drop 2, 0) := by
      simp only [closeGet, h0, if_false, h1]
    refine Tri.drw (Tri.chk (by rw [ba_size]; omega) (Tri.chk (by rw [ba_size]; omega) ?_))
    refine Tri.slStr 2 d.length (by rfl) (by rw [ba_size]; rfl) (by omega) (by rw [ba_size]; exact Nat.le_refl _) ?_
    rw [ba_extract, List.take_of_length_le (by simp)]
    refine Tri.lt ?_
    have e0 := bt_ba d 0 (by omega)
    have e1 := bt_ba d 1 (by omega)
    have e0' : bt (ba d) 0 = ((d.getD 0 0).toNat : Int) := e0
    have e1' : bt (ba d) 1 = ((d.getD 1 0).toNat : Int) := e1
    rw [e0', e1', or_sh]
    refine Tri.bnd validC_spec ?_
    rintro _ _ ⟨rfl, rfl⟩
    rw [hg]
    refine Tri.lt ?_
    cases hv : validC (((d.getD 0 0).toNat * 256 + (d.getD 1 0).toNat : Nat) : Int) with
    | false => exact Tri.ret ⟨rfl, rfl⟩
    | true =>
      simp only [Bool.not_true, Bool.false_eq_true, if_false, Bool.true_eq_false]
      refine Tri.bytesOf fun x12 h12 _ => ?_
      rw [bytes_ba]
      rw [ba_size] at h12
      refine Tri.bnd (valid_spec hK Rd.row h12 (by simp; omega)) ?_
      rintro _ _ ⟨rfl, rfl⟩
      refine Tri.drop (Tri.lt ?_)
      cases hu : utValid (d.drop 2) with
      | false => exact Tri.ret ⟨rfl, rfl⟩
      | true => exact Tri.ret ⟨rfl, rfl⟩
/-- an end's data -/
def closePut (c : Int) (w : List UInt8) : List UInt8 × Nat :=
  if c = 0 ∧ w = [] then ([], 0) else if validC c = false ∨ 123 < w.length then ([], 110) else if utValid w = false then ([], 111)
  else ([UInt8.ofNat (c.toNat / 256), UInt8.ofNat c.toNat] ++ w, 0)
theorem close_Put_spec {c : Int} {w : List UInt8} (hK : KBig K) (hb : w.length ≤ 1099511627776) : Tri ρ L (close_Put K c (ba w)) (fun r L' => r = (ba (closePut c w).1, ((closePut c w).2 : Int)) ∧ L' = L) := by
  unfold close_Put
  refine Tri.lt ?_
  rw [ba_nil]
  refine Tri.val (decide (c = 0 ∧ w = [])) ?_ ?_
  · refine Tri.ite ?_ ?_
    · intro h
      have h' : c = 0 := by simpa using h
      refine Tri.ret ⟨?_, rfl⟩
      rw [sEq_ba, Bool.eq_iff_iff]; simp [h']
    · intro h
      have h' : ¬ c = 0 := by simpa using h
      exact Tri.ret ⟨by simp [h'], rfl⟩
  by_cases h0 : c = 0 ∧ w = []
  · rw [decide_eq_true h0]
    have hp : closePut c w = ([], 0) := by simp only [closePut]; rw [if_pos h0]
    rw [hp]
    exact Tri.ret ⟨rfl, rfl⟩
  · rw [decide_eq_false h0]
    simp only [Bool.false_eq_true, if_false]
    refine Tri.bnd validC_spec ?_
    rintro _ _ ⟨rfl, rfl⟩
    refine Tri.val (decide (validC c = false ∨ 123 < w.length)) ?_ ?_
    · rw [ba_size]
      cases hv : validC c with
      | false => exact Tri.ret ⟨rfl, rfl⟩
      | true =>
        refine Tri.ret (x := decide ((123 : Int) < (w.length : Int))) ⟨?_, rfl⟩
        rw [Bool.eq_iff_iff]; simp; omega
    by_cases h1 : validC c = false ∨ 123 < w.length
    · rw [decide_eq_true h1]
      have hp : closePut c w = ([], 110) := by simp only [closePut]; rw [if_neg h0, if_pos h1]
      rw [hp]
      exact Tri.ret ⟨rfl, rfl⟩
    · rw [decide_eq_false h1]
      simp only [Bool.false_eq_true, if_false]
      refine Tri.bytesOf fun x7 h7 _ => ?_
      rw [bytes_ba]
      rw [ba_size] at h7
      refine Tri.bnd (valid_spec hK Rd.row h7 hb) ?_
      rintro _ _ ⟨rfl, rfl⟩
      refine Tri.drop (Tri.lt ?_)
      cases hu : utValid w with
      | false =>
        have hp : closePut c w = ([], 111) := by simp only [closePut]; rw [if_neg h0, if_neg h1, if_pos hu]
        rw [hp]
        exact Tri.ret ⟨rfl, rfl⟩
      | true =>
        have hp : closePut c w = ([UInt8.ofNat (c.toNat / 256), UInt8.ofNat c.toNat] ++ w, 0) := by simp only [closePut]; rw [if_neg h0, if_neg h1, if_neg (by simp [hu])]
        rw [hp]
        simp only [Bool.not_true, Bool.false_eq_true, if_false]
        refine Tri.new fun x11 => ?_
        have hvc : validC c = true := by cases hv : validC c with | true => rfl | false => exact absurd (.inl hv) h1
        have hc0 : 0 ≤ c ∧ c < 65536 := by
          simp only [validC, Bool.or_eq_true, decide_eq_true_eq] at hvc; omega
        have ec : ([.int .u8 (IntKind.wrap .u8 (shrI .i64 c 8)), .int .u8 (IntKind.wrap .u8 c)] : List Value) = bl [UInt8.ofNat (c.toNat / 256), UInt8.ofNat c.toNat] := by
          have h8 : shrI .i64 c 8 = c / 256 := by
            unfold shrI
            have : (min (8 : Int).toNat (IntKind.bits .i64)) = 8 := by decide
            rw [this, Int.fdiv_eq_ediv_of_nonneg _ (by decide)]; rfl
          simp only [bl, List.map_cons, List.map_nil, byt_ofNat, wrU8, h8]
          have e1 : ((c.toNat / 256 : Nat) : Int) = c / 256 := by omega
          have e2 : (c.toNat : Int) = c := by omega
          rw [e1, e2]
        rw [ec]
        refine Tri.strOf (t := ba [UInt8.ofNat (c.toNat / 256), UInt8.ofNat c.toNat]) (by rw [bytes_ba]; exact Rd.lit) ?_
        refine Tri.drop (Tri.chk (by rw [ba_size, ba_size]; simp; omega) (Tri.lt ?_))
        rw [ba_append]
        exact Tri.ret ⟨rfl, rfl⟩
end Go.Proofs.YtjdnjlnfcbaokaaGreat

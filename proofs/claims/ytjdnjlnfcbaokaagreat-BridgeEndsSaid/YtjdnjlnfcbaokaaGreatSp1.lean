/-
  SPECS, 1: mask (Key, number, Put), slices.Concat, frame (Check, Put). Own work.
-/
import Derived.Test.YtjdnjlnfcbaokaaGreatSp0
set_option linter.unusedVariables false
set_option linter.unusedSimpArgs false
namespace Go.Proofs.YtjdnjlnfcbaokaaGreat
open Go Go.Lg
variable {α β σ τ : Type} {ρ : Hp} {L M : As} {K : Nat}

section
variable {f : α → G β}
theorem bnd_ret {x : α} : bnd (ret x) f = f x := rfl
theorem bnd_bnd {m : G σ} {g : σ → G α} : bnd (bnd m g) f = bnd m (fun x => bnd (g x) f) := rfl
theorem bnd_ite {c : Bool} {m1 m2 : G α} : bnd (if c = true then m1 else m2) f = if c = true then bnd m1 f else bnd m2 f := by cases c <;> rfl
theorem bnd_lt {x : σ} {g : σ → G α} : bnd (lt x g) f = lt x (fun y => bnd (g y) f) := rfl
theorem bnd_ldB {a : Addr} {g : Bool → G α} : bnd (ldB a g) f = ldB a (fun y => bnd (g y) f) := rfl
theorem bnd_ldI {k : IntKind} {a : Addr} {g : Int → G α} : bnd (ldI k a g) f = ldI k a (fun y => bnd (g y) f) := rfl
theorem bnd_ldS {a : Addr} {g : ByteArray → G α} : bnd (ldS a g) f = ldS a (fun y => bnd (g y) f) := rfl
theorem bnd_ldP {a : Addr} {g : Option Addr → G α} : bnd (ldP a g) f = ldP a (fun y => bnd (g y) f) := rfl
theorem bnd_ldSl {a : Addr} {g : Sl → G α} : bnd (ldSl a g) f = ldSl a (fun y => bnd (g y) f) := rfl
theorem bnd_ldG [Agg σ] {a : Addr} {g : σ → G α} : bnd (ldG a g) f = ldG a (fun y => bnd (g y) f) := rfl
theorem bnd_nn {a : Option Addr} {g : Addr → G α} : bnd (nn a g) f = nn a (fun y => bnd (g y) f) := rfl
theorem bnd_ixA {s : Sl} {i : Int} {sz : Nat} {g : Addr → G α} : bnd (ixA s i sz g) f = ixA s i sz (fun y => bnd (g y) f) := rfl
theorem bnd_st {a : Addr} {v : Value} {g : G α} : bnd (st a v g) f = st a v (bnd g f) := rfl
theorem bnd_drw {g : G α} : bnd (drw g) f = drw (bnd g f) := rfl
theorem bnd_strOf {s : Sl} {g : ByteArray → G α} : bnd (strOf s g) f = strOf s (fun y => bnd (g y) f) := rfl
theorem bnd_new {cs : List Value} {e : TypeId} {g : Addr → G α} : bnd (new cs e g) f = new cs e (fun y => bnd (g y) f) := rfl
theorem bnd_slS {s : Sl} {lo hi mx : Option Int} {sz : Nat} {g : Sl → G α} : bnd (slS s lo hi mx sz g) f = slS s lo hi mx sz (fun y => bnd (g y) f) := rfl
theorem bnd_slA {s : Addr} {n : Nat} {lo hi : Option Int} {sz : Nat} {g : Sl → G α} : bnd (slA s n lo hi sz g) f = slA s n lo hi sz (fun y => bnd (g y) f) := rfl
theorem bnd_slStr {s : ByteArray} {lo hi : Option Int} {g : ByteArray → G α} : bnd (slStr s lo hi g) f = slStr s lo hi (fun y => bnd (g y) f) := rfl
theorem bnd_app {e : TypeId} {sz bytes : Nat} {z : List Value} {s : Sl} {n : Nat} {src : World → Option (List Value)} {g : Sl → G α} : bnd (app e sz bytes z s n src g) f = app e sz bytes z s n src (fun y => bnd (g y) f) := rfl
theorem bnd_appS {e : TypeId} {sz bytes : Nat} {z : List Value} {s x : Sl} {g : Sl → G α} : bnd (appS e sz bytes z s x g) f = appS e sz bytes z s x (fun y => bnd (g y) f) := rfl
theorem bnd_appT {e : TypeId} {z : List Value} {s : Sl} {x : ByteArray} {g : Sl → G α} : bnd (appT e z s x g) f = appT e z s x (fun y => bnd (g y) f) := rfl
theorem bnd_appZ {e : TypeId} {sz bytes : Nat} {z : List Value} {s : Sl} {k : Int} {g : Sl → G α} : bnd (appZ e sz bytes z s k g) f = appZ e sz bytes z s k (fun y => bnd (g y) f) := rfl
theorem bnd_chk {c : Prop} {g : G α} : bnd (chk c g) f = chk c (bnd g f) := rfl
theorem bnd_mk {e : TypeId} {sz bytes : Nat} {z : List Value} {l c : Int} {g : Sl → G α} : bnd (mk e sz bytes z l c g) f = mk e sz bytes z l c (fun y => bnd (g y) f) := rfl
theorem bnd_cpy {sz : Nat} {d s : Sl} {g : Int → G α} : bnd (cpy sz d s g) f = cpy sz d s (fun y => bnd (g y) f) := rfl
theorem bnd_wld {g : World → G α} : bnd (wld g) f = wld (fun y => bnd (g y) f) := rfl
theorem bnd_agr {F : World → Prop} {g : G α} : bnd (agr F g) f = agr F (bnd g f) := rfl
theorem bnd_bytesOf {e : TypeId} {s : ByteArray} {g : Sl → G α} : bnd (bytesOf e s g) f = bytesOf e s (fun y => bnd (g y) f) := rfl
theorem bnd_drw2 {g h : G α} : bnd (drw2 g h) f = drw2 (bnd g f) (bnd h f) := rfl
theorem bnd_mrk {s : Sl} {g : G α} : bnd (mrk s g) f = mrk s (bnd g f) := rfl
theorem bnd_fail : bnd (fail : G α) f = fail := rfl
theorem sumK_inl {s : σ} {g : σ → G τ} : sumK g (.inl s) = g s := rfl
theorem sumK_inr {t : τ} {g : σ → G τ} : sumK g (.inr t) = ret t := rfl
theorem bnd_inr {m : G τ} {g : σ → G τ} : bnd (inr m) (sumK g) = m := rfl
end
theorem ldSlV {a : Addr} {v : Sl} {f : Sl → G β} {C : β → As → Prop} (hc : Cell ρ L a (.slice v.a v.n v.c)) (h : Tri ρ L (f v) C) : Tri ρ L (Lg.ldSl a f) C := Tri.ldSl v hc h

/-! ### 1. Numbers -/
def numB (n : Nat) : Nat → List UInt8
  | 0 => []
  | s + 1 => numB (n / 256) s ++ [UInt8.ofNat n]
theorem numB_length : ∀ (s n : Nat), (numB n s).length = s
  | 0, _ => rfl
  | s + 1, n => by simp [numB, numB_length s]
theorem numB_get : ∀ (s n j : Nat), j < s → (numB n s)[s - 1 - j]? = some (UInt8.ofNat (n / 256 ^ j))
  | 0, _, _, h => by omega
  | s + 1, n, 0, _ => by simp [numB, numB_length]
  | s + 1, n, j + 1, h => by
    have e : s + 1 - 1 - (j + 1) = s - 1 - j := by omega
    rw [e, numB, List.getElem?_append_left (by rw [numB_length]; omega), numB_get s (n / 256) j (by omega), Nat.div_div_eq_div_mul, Nat.pow_succ, Nat.mul_comm]
theorem byt_ofNat (n : Nat) : byt (UInt8.ofNat n) = .int .u8 ((n : Int) % 256) := by
  simp only [byt, UInt8.toNat_ofNat', Nat.reducePow]
  congr 1
theorem shr64 (n i : Nat) (h : i < 8) : shrI .u64 (n : Int) ((8 * i : Nat) : Int) = ((n / 256 ^ i : Nat) : Int) := by
  unfold shrI
  have e : (2 : Int) ^ (min ((8 * i : Nat) : Int).toNat (IntKind.bits .u64)) = ((256 ^ i : Nat) : Int) := by
    simp only [Int.toNat_natCast, IntKind.bits]
    rw [Nat.min_eq_left (by omega), show (256 : Nat) ^ i = 2 ^ (8 * i) by rw [Nat.pow_mul]]
    simp
  rw [e, Int.fdiv_eq_ediv_of_nonneg _ (Int.natCast_nonneg _)]
  rfl
theorem shr32 (n k : Nat) (h : k ≤ 32) : shrI .u32 (n : Int) (k : Int) = ((n / 2 ^ k : Nat) : Int) := by
  unfold shrI
  have e : (2 : Int) ^ (min (k : Int).toNat (IntKind.bits .u32)) = ((2 ^ k : Nat) : Int) := by
    simp only [Int.toNat_natCast, IntKind.bits]
    rw [Nat.min_eq_left (by omega)]
    simp
  rw [e, Int.fdiv_eq_ediv_of_nonneg _ (Int.natCast_nonneg _)]
  rfl
theorem mask_number_spec {n s : Nat} (hK : KBig K) (hs : s ≤ 8) (hs0 : 0 < s) : Tri ρ L (mask_number K n s) (fun r L' => r.n = s ∧ L' = row r 1 (bl (numB n s)) :: L) := by
  unfold mask_number
  refine Tri.mk s rfl rfl rfl (by omega) (by omega) fun s' hn hc hne => ?_
  refine Tri.bnd (B := fun _ L' => L' = row s' 1 (bl (numB n s)) :: L) ?_ ?_
  · refine Tri.loop (μ := fun (i : Int) => s - i.toNat) (I := fun (i : Int) L' => ∃ j : Nat, i = j ∧ j ≤ s ∧ ∃ z : List UInt8, z.length = s ∧ (∀ q, q < j → z[s - 1 - q]? = (numB n s)[s - 1 - q]?) ∧ L' = row s' 1 (bl z) :: L) ?_ (by unfold KBig at hK; simp; omega) ⟨0, rfl, by omega, List.replicate s 0, by simp, by intro q hq; omega, by rw [zs_one]; simp [bl, byt]⟩
    rintro again i L' ⟨j, rfl, hj, z, hz, hq, rfl⟩ ih
    unfold mask_number_l0
    refine Tri.ite ?_ ?_
    · intro hc
      have hj' : j < s := by simpa using hc
      have e1 : IntKind.wrap .u64 (IntKind.wrap .i64 (8 * (j : Int))) = ((8 * j : Nat) : Int) := by rw [w64 (by omega) (by omega), wu64 (by omega) (by omega)]; omega
      have e2 : IntKind.wrap .i64 (IntKind.wrap .i64 ((s : Int) - 1) - (j : Int)) = ((s - 1 - j : Nat) : Int) := by rw [w64 (x := (s : Int) - 1) (by omega) (by omega), w64 (by omega) (by omega)]; omega
      rw [e1, e2]
      refine Tri.chk (by omega) ?_
      refine Tri.ixA (l := bl z) (s - 1 - j) Rd.row rfl (by omega) (by intro e; have := congrArg List.length e; simp [bl] at this; subst this; simp at hz; omega) fun y hy => ?_
      refine Tri.stRow hy (by omega) rfl rfl rfl ?_
      rw [shr64 _ _ (by omega), wrU8, w64 (by omega) (by omega)]
      refine ih _ _ ⟨j + 1, by omega, by omega, z.set (s - 1 - j) (UInt8.ofNat (n / 256 ^ j)), by simpa using hz, ?_, ?_⟩ (by omega)
      · intro q hq'
        rw [List.getElem?_set]
        by_cases e : s - 1 - j = s - 1 - q
        · have : q = j := by omega
          subst this
          rw [if_pos rfl, if_pos (by omega), numB_get _ _ _ hj']
        · rw [if_neg e]; exact hq q (by omega)
      · rw [Nat.mul_one, ← byt_ofNat]
        have : (byt (UInt8.ofNat (n / 256 ^ j))).cells.toList = [byt (UInt8.ofNat (n / 256 ^ j))] := rfl
        rw [this, splice_one _ _ _ (by rw [bl_length]; omega)]
        simp [bl, List.map_set]
    · intro hc
      have hj' : j = s := by simp at hc; omega
      refine Tri.ret ?_
      have : z = numB n s := by
        apply List.ext_getElem?
        intro q
        by_cases hq' : q < s
        · have := hq (s - 1 - q) (by omega)
          rwa [show s - 1 - (s - 1 - q) = q by omega] at this
        · rw [List.getElem?_eq_none (by omega), List.getElem?_eq_none (by rw [numB_length]; omega)]
      rw [this]
  · rintro _ _ rfl
    exact Tri.ret ⟨hn, rfl⟩
/-- a length's bytes -/
def lenB (n : Nat) : List UInt8 := if n < 126 then [UInt8.ofNat n] else if n < 65536 then 126 :: numB n 2 else 127 :: numB n 8
theorem row_lit {b : Nat} {l : List UInt8} {m : G β} {C : β → As → Prop} (h : Tri ρ (row ⟨some ⟨b, 0, none⟩, l.length, l.length⟩ 1 (bl l) :: L) m C) : Tri ρ (pts b (bl l) :: L) m C :=
  Tri.rowClose (o := 0) rfl (by simp [bl_length]) (by simp [bl_length]) (Nat.le_refl _) (by simp) h
theorem mask_Put_spec {n : Nat} (hK : KBig K) (hn : n < 9223372036854775808) : Tri ρ L (mask_Put K n) (fun r L' => r.2 = 0 ∧ r.1.n = (lenB n).length ∧ L' = row r.1 1 (bl (lenB n)) :: L) := by
  unfold mask_Put
  refine Tri.lt ?_
  refine Tri.ite ?_ ?_
  · intro h
    simp at h; omega
  intro _
  refine Tri.lt ?_
  refine Tri.ite ?_ ?_
  · intro h
    have h' : n < 126 := by simp at h; omega
    refine Tri.new fun b => ?_
    have e : ([.int .u8 (IntKind.wrap .u8 (n : Int))] : List Value) = bl [UInt8.ofNat n] := by rw [wrU8]; simp [bl, byt_ofNat]
    rw [e]
    refine row_lit (Tri.ret ⟨rfl, ?_, ?_⟩) <;> simp [lenB, h']
  intro h1
  have h1' : ¬ n < 126 := by simp at h1; omega
  refine Tri.lt ?_
  refine Tri.ite ?_ ?_
  · intro h
    have h' : n < 65536 := by simp at h; omega
    refine Tri.new fun b => ?_
    refine Tri.bnd (mask_number_spec (s := 2) hK (by omega) (by omega)) ?_
    rintro s _ ⟨hs, rfl⟩
    have e : ([.int .u8 (126 : Int)] : List Value) = bl [126] := rfl
    rw [e]
    refine Tri.pick 1 rfl (row_lit (Tri.appS Rd.row ?_ (bl_one _) ?_ fun s' hs' => ?_))
    · rw [bl_length, numB_length, hs]
    · simp [hs]
    · refine Tri.pick 1 rfl (Tri.drop (Tri.ret ⟨rfl, ?_, ?_⟩))
      · simp [lenB, h1', h', hs', hs, numB_length]
      · simp [lenB, h1', h', bl]
  · intro h2
    have h2' : ¬ n < 65536 := by simp at h2; omega
    refine Tri.new fun b => ?_
    refine Tri.bnd (mask_number_spec (s := 8) hK (by omega) (by omega)) ?_
    rintro s _ ⟨hs, rfl⟩
    have e : ([.int .u8 (127 : Int)] : List Value) = bl [127] := rfl
    rw [e]
    refine Tri.pick 1 rfl (row_lit (Tri.appS Rd.row ?_ (bl_one _) ?_ fun s' hs' => ?_))
    · rw [bl_length, numB_length, hs]
    · simp [hs]
    · refine Tri.pick 1 rfl (Tri.drop (Tri.ret ⟨rfl, ?_, ?_⟩))
      · simp [lenB, h1', h2', hs', hs, numB_length]
      · simp [lenB, h1', h2', bl]
def keyOf (n : Nat) : Key := ⟨UInt8.ofNat (n / 16777216), UInt8.ofNat (n / 65536), UInt8.ofNat (n / 256), UInt8.ofNat n⟩
theorem ofNat_toNat (n : Nat) : ((UInt8.ofNat n).toNat : Int) = (n : Int) % 256 := by simp [UInt8.toNat_ofNat']
theorem mask_Key_spec {n : Nat} : Tri ρ L (mask_Key K n) (fun r L' => r = (keyOf n).t ∧ L' = L) := by
  unfold mask_Key
  have e : A4u8.mk (IntKind.wrap .u8 (shrI .u32 (n : Int) 24)) (IntKind.wrap .u8 (shrI .u32 (n : Int) 16)) (IntKind.wrap .u8 (shrI .u32 (n : Int) 8)) (IntKind.wrap .u8 (n : Int)) = (keyOf n).t := by
    simp only [keyOf, Key.t, wrU8, ofNat_toNat, A4u8.mk.injEq]
    have h1 := shr32 n 24 (by omega)
    have h2 := shr32 n 16 (by omega)
    have h3 := shr32 n 8 (by omega)
    have h4 : ∀ x y : Int, x = y → x % 256 = y % 256 := fun x y e => by rw [e]
    exact ⟨h4 _ _ h1, h4 _ _ h2, h4 _ _ h3, trivial⟩
  rw [e]
  refine Tri.new fun b => ?_
  refine Tri.stB (l := Agg.cells (keyOf n).t) (by rfl) (by simp [Agg.cells]) rfl ?_
  refine Tri.ldG (keyOf n).t rfl (Cells.here (by simp [Agg.cells, splice]) (by rfl)) ?_
  exact Tri.drop (Tri.ret ⟨rfl, rfl⟩)

/-! ### 2. slices.Concat -/
theorem slices_Grow_spec {n : Nat} (hn : n ≤ 17592186044416) : Tri ρ L (slices_Grow_byte K Sl.nil n) (fun r L' => r.n = 0 ∧ L' = row r 1 [] :: L) := by
  unfold slices_Grow_byte
  refine Tri.ite ?_ ?_
  · intro h
    simp at h; omega
  intro _
  have e : IntKind.wrap .i64 ((n : Int) - IntKind.wrap .i64 ((Sl.nil.c : Int) - (Sl.nil.n : Int))) = (n : Int) := by
    rw [w64 (x := (Sl.nil.c : Int) - (Sl.nil.n : Int)) (by decide) (by decide)]
    have : ((Sl.nil.c : Int) - (Sl.nil.n : Int)) = 0 := rfl
    rw [this, w64 (by omega) (by omega)]; omega
  refine Tri.lt ?_
  rw [e]
  simp only [bnd_ite, bnd_ret, bnd_slS, bnd_appZ]
  refine Tri.ite ?_ ?_
  · intro h
    refine Tri.nilRow (sz := 1) ?_
    refine Tri.slS 0 0 0 (by rfl) (by rfl) (by rfl) (by omega) (by omega) (Nat.zero_le _) fun s1 h1 _ => ?_
    refine Tri.weak (fun k hk => h1.row (Nat.zero_le _) (Nat.zero_le _) hk) ?_
    refine Tri.appZ n rfl rfl rfl (by omega) (by omega) (by have := h1.n; omega) fun s2 h2 => ?_
    refine Tri.rowLen fun hl hc => ?_
    refine Tri.slS 0 0 s2.c (by rfl) (by rfl) (by rfl) (by omega) (by omega) (Nat.le_refl _) fun s3 h3 _ => ?_
    refine Tri.weak (fun k hk => h3.row (Nat.zero_le _) (Nat.zero_le _) hk) ?_
    exact Tri.ret ⟨h3.n, by simp⟩
  · intro h
    exact Tri.nilRow (Tri.ret ⟨rfl, rfl⟩)
theorem Stands.readable {x : Sl} {l : List Value} : True := trivial
/-- the slices of a slice of slices of bytes -/
def parts (ss : List (Sl × List UInt8)) : List Value := ss.map fun p => .slice p.1.a p.1.n p.1.c
def whole (ss : List (Sl × List UInt8)) : List UInt8 := ss.flatMap (·.2)
theorem whole_take (ss : List (Sl × List UInt8)) (j : Nat) (h : j < ss.length) : whole (ss.take (j + 1)) = whole (ss.take j) ++ ss[j].2 := by
  rw [List.take_add_one, List.getElem?_eq_getElem h]; simp only [whole, Option.toList_some, List.flatMap_append, List.flatMap_cons, List.flatMap_nil, List.append_nil]
theorem whole_le (ss : List (Sl × List UInt8)) (j : Nat) : (whole (ss.take j)).length ≤ (whole ss).length := by
  conv => rhs; rw [← List.take_append_drop j ss]
  simp only [whole, List.flatMap_append, List.length_append]; omega
theorem slices_Concat_spec {s : Sl} {ss : List (Sl × List UInt8)} (hK : KBig K) (hr : Rd ρ L s 1 (parts ss)) (hn : s.n = ss.length) (hp : ∀ p ∈ ss, p.1.n = p.2.length ∧ Rd ρ L p.1 1 (bl p.2)) (hm : ss.length ≤ 1152921504606846) (hw : (whole ss).length ≤ 17592186044416) :
    Tri ρ L (slices_Concat_byte K s) (fun r L' => r.n = (whole ss).length ∧ L' = row r 1 (bl (whole ss)) :: L) := by
  unfold slices_Concat_byte
  have hget : ∀ j (h : j < ss.length), (parts ss)[j]? = some (.slice ss[j].1.a ss[j].1.n ss[j].1.c) := fun j h => by simp [parts, List.getElem?_eq_getElem h]
  have hne : 0 < ss.length → parts ss ≠ [] := fun h e => by have := congrArg List.length e; simp [parts] at this; subst this; simp at h
  refine Tri.bnd (B := fun r L' => r = ((whole ss).length : Int) ∧ L' = L) ?_ ?_
  · refine Tri.loop (μ := fun (i : Int × Int) => ss.length - i.2.toNat) (I := fun (i : Int × Int) L' => ∃ j : Nat, i = (((whole (ss.take j)).length : Int), (j : Int)) ∧ j ≤ ss.length ∧ L' = L) ?_ (by unfold KBig at hK; simp; omega) ⟨0, by simp [whole], by omega, rfl⟩
    rintro again i L' ⟨j, rfl, hj, rfl⟩ ih
    unfold slices_Concat_byte_l0
    refine Tri.ite ?_ ?_
    · intro hc
      have hj' : j < ss.length := by simp at hc; omega
      refine Tri.ixA j hr rfl (by omega) (hne (by omega)) fun x hx => ?_
      refine Tri.ldSl ss[j].1 (hx.cell hr (hget j hj') (by omega)) ?_
      have h1 := (hp ss[j] (List.getElem_mem hj')).1
      have h2 := whole_take ss j hj'
      have h3 := whole_le ss (j + 1)
      have h4 : (whole (ss.take (j + 1))).length = (whole (ss.take j)).length + ss[j].1.n := by rw [h2, List.length_append, h1]
      refine Tri.lt ?_
      have e1 : IntKind.wrap .i64 (((whole (ss.take j)).length : Int) + (ss[j].1.n : Int)) = ((whole (ss.take (j + 1))).length : Int) := by rw [w64 (by omega) (by omega)]; omega
      simp only [e1]
      refine Tri.ite (fun h => ?_) (fun _ => ?_)
      · simp at h; omega
      · rw [w64 (by omega) (by omega)]
        exact ih _ _ ⟨j + 1, by simp, by omega, rfl⟩ (by simp; omega)
    · intro hc
      have hj' : j = ss.length := by simp at hc; omega
      subst hj'
      exact Tri.ret ⟨by simp, rfl⟩
  rintro _ L0 ⟨rfl, rfl⟩
  refine Tri.bnd (slices_Grow_spec hw) ?_
  rintro g _ ⟨hg, rfl⟩
  refine Tri.bnd (B := fun r L' => r.n = (whole ss).length ∧ L' = row r 1 (bl (whole ss)) :: L0) ?_ (fun r L' h => Tri.ret h)
  refine Tri.loop (μ := fun (i : Sl × Int) => ss.length - i.2.toNat) (I := fun (i : Sl × Int) L' => ∃ j : Nat, i.2 = (j : Int) ∧ j ≤ ss.length ∧ i.1.n = (whole (ss.take j)).length ∧ L' = row i.1 1 (bl (whole (ss.take j))) :: L0) ?_ (by unfold KBig at hK; simp; omega) ⟨0, rfl, by omega, by simpa [whole] using hg, by simp [whole, bl]⟩
  rintro again ⟨i1, i2⟩ L' ⟨j, hi, hj, hin, rfl⟩ ih
  simp only at hi hin
  subst hi
  unfold slices_Concat_byte_l1
  dsimp only
  refine Tri.ite ?_ ?_
  · intro hc
    have hj' : j < ss.length := by simp at hc; omega
    refine Tri.ixA j hr.tail rfl (by omega) (hne (by omega)) fun x hx => ?_
    refine Tri.ldSl ss[j].1 (hx.cell hr.tail (hget j hj') (by omega)) ?_
    obtain ⟨h1, h5⟩ := hp ss[j] (List.getElem_mem hj')
    have h2 := whole_take ss j hj'
    have h3 := whole_le ss (j + 1)
    have h4 : (whole (ss.take (j + 1))).length = (whole (ss.take j)).length + ss[j].1.n := by rw [h2, List.length_append, h1]
    refine Tri.appS h5 (by rw [bl_length, h1]; omega) (bl_one _) (by omega) fun s' hs' => ?_
    rw [w64 (by omega) (by omega), ← bl_append, ← h2]
    refine ih _ _ ⟨j + 1, by simp, by omega, by simp only; omega, rfl⟩ (by simp; omega)
  · intro hc
    have hj' : j = ss.length := by simp at hc; omega
    subst hj'
    exact Tri.ret ⟨by simpa using hin, by simp⟩
end Go.Proofs.YtjdnjlnfcbaokaaGreat

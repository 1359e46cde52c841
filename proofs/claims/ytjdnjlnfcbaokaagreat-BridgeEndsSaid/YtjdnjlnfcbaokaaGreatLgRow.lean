/-
  SPECS OF 'G' PROGRAMS: slices ('row': a slice of one's own), append, copy, make. Own work.
-/
import Derived.Test.YtjdnjlnfcbaokaaGreatLgSep
import Derived.Laws.Append
set_option linter.unusedVariables false
set_option linter.unusedSimpArgs false
namespace Go.Lg
open Go
variable {α β σ τ : Type} {ρ : Hp} {L M : As} {B : α → As → Prop} {C : β → As → Prop}
theorem Tri.after {m : G β} {w w' : World} {R : Hp} (e : Ext w w') (h : m.run w' (fun r w2 => Ext w' w2 ∧ ∃ L', C r L' ∧ Stands L' R w2)) : m.run w' (fun r w2 => Ext w w2 ∧ ∃ L', C r L' ∧ Stands L' R w2) := m.mono (fun _ _ q => ⟨e.trans q.1, q.2⟩) h
theorem bytes_length (t : ByteArray) : (bytes t).length = t.size := by
  simp only [bytes, List.length_map, Array.length_toList]; rfl
theorem bytes_one (t : ByteArray) : (bytes t).all one = true := by
  rw [List.all_eq_true]; intro x hx
  obtain ⟨y, _, rfl⟩ := List.mem_map.1 hx; rfl

/-! ### 1. Reading slices -/
theorem add_add (a : Addr) (i j : Nat) : (a.add i).add j = a.add (i + j) := by
  unfold Addr.add
  by_cases hi : i = 0
  · subst hi; simp
  · by_cases hj : j = 0
    · subst hj; simp [hi]
    · simp [hi, hj, Nat.add_assoc]
theorem rdN_iff {w : World} {a : Addr} : ∀ {n i : Nat} {l : List Value}, rdN w a i n = some l ↔ l.length = n ∧ ∀ j, j < n → w.cell? (a.add (i + j)) = l[j]?
  | 0, i, l => by
    simp only [rdN, Option.some.injEq]
    constructor
    · rintro rfl; simp
    · rintro ⟨h, _⟩; exact (List.eq_nil_of_length_eq_zero h).symm
  | n + 1, i, l => by
    simp only [rdN]
    constructor
    · intro h
      split at h
      · rename_i v t h1 h2
        simp only [Option.some.injEq] at h; subst h
        obtain ⟨h3, h4⟩ := rdN_iff.1 h2
        refine ⟨by simp [h3], fun j hj => ?_⟩
        cases j with
        | zero => simpa using h1
        | succ j => have := h4 j (by omega); simpa [Nat.add_assoc, Nat.add_comm 1] using this
      · simp at h
    · rintro ⟨h1, h2⟩
      cases l with
      | nil => simp at h1
      | cons v t =>
        have h3 := h2 0 (by omega)
        have h4 : rdN w a (i + 1) n = some t := rdN_iff.2 ⟨by simpa using h1, fun j hj => by have := h2 (j + 1) (by omega); simpa [Nat.add_assoc, Nat.add_comm 1] using this⟩
        simp only [Nat.add_zero, List.getElem?_cons_zero] at h3
        rw [h3, h4]
theorem rdN_sub {w : World} {a : Addr} {n k m : Nat} {l : List Value} (h : rdN w a 0 n = some l) (hk : k + m ≤ n) : rdN w (a.add k) 0 m = some ((l.drop k).take m) := by
  obtain ⟨h1, h2⟩ := rdN_iff.1 h
  refine rdN_iff.2 ⟨by simp; omega, fun j hj => ?_⟩
  rw [add_add]
  have := h2 (k + j) (by omega)
  simp only [Nat.zero_add] at this ⊢
  rw [this]
  simp [List.getElem?_take, hj, List.getElem?_drop]
theorem Rd.len {s : Sl} {sz : Nat} {l : List Value} (h : Rd ρ L s sz l) {w : World} {R : Hp} (hR : ρ.le R) (hs : Stands L R w) (hne : s.a ≠ none) : l.length = s.n * sz := by
  have := h w R hR hs
  unfold rdSl at this
  cases ha : s.a with
  | none => exact absurd ha hne
  | some a => rw [ha] at this; exact (rdN_iff.1 this).1
/-- an element's place -/
def Spot (ρ : Hp) (s : Sl) (sz : Nat) (i : Nat) (x : Addr) : Prop := s.a.map (·.add (i * sz)) = some x
theorem Spot.cells {s : Sl} {sz i : Nat} {x : Addr} (h : Spot ρ s sz i x) {l : List Value} (hr : Rd ρ L s sz l) (hi : i < s.n) {vs : List Value} (hv : (l.drop (i * sz)).take sz = vs) (hn : vs.length = sz) : Cells ρ L x vs := fun w R hR hs => by
  have h1 := hr w R hR hs
  unfold Spot at h
  unfold rdSl at h1
  cases ha : s.a with
  | none => rw [ha] at h; simp at h
  | some a =>
    rw [ha] at h h1
    simp only [Option.map_some, Option.some.injEq] at h
    subst h
    have h2 : i * sz + sz ≤ s.n * sz := by
      have : (i + 1) * sz ≤ s.n * sz := Nat.mul_le_mul_right _ hi
      rw [Nat.add_mul, Nat.one_mul] at this; exact this
    have h3 := rdN_sub h1 h2
    rw [hn, h3, hv]
theorem Spot.cell {s : Sl} {i : Nat} {x : Addr} (h : Spot ρ s 1 i x) {l : List Value} (hr : Rd ρ L s 1 l) {v : Value} (hv : l[i]? = some v) (hi : i < s.n) : Cell ρ L x v := fun w R hR hs => by
  have h1 : (l.drop (i * 1)).take 1 = [v] := by
    rw [Nat.mul_one]
    have hl : i < l.length := (List.getElem?_eq_some_iff.1 hv).1
    rw [List.drop_eq_getElem_cons hl]
    simp only [List.take_succ_cons, List.take_zero]
    rw [List.getElem?_eq_getElem hl] at hv
    simpa using hv
  exact rdN_one.1 (h.cells hr hi h1 rfl w R hR hs)
theorem Tri.ixA {s : Sl} {sz : Nat} {l : List Value} {i : Int} (k : Nat) {f : Addr → G β} (hr : Rd ρ L s sz l) (hk : i = (k : Int)) (hn : k < s.n) (hl : l ≠ []) (h : ∀ x, Spot ρ s sz k x → Tri ρ L (f x) C) : Tri ρ L (Lg.ixA s i sz f) C := fun w R hR hs => by
  have h1 := hr w R hR hs
  unfold rdSl at h1
  subst hk
  cases ha : s.a with
  | none => rw [ha] at h1; simp at h1; exact absurd h1 hl
  | some a => exact ⟨a, ha, by omega, h _ (by simp [Spot, ha]) w R hR hs⟩
/-- a part of a slice -/
structure SubS (s s' : Sl) (sz lo k : Nat) : Prop where
  n : s'.n = k
  rd : ∀ {ρ : Hp} {L : As} {l : List Value}, Rd ρ L s sz l → lo + k ≤ s.n → Rd ρ L s' sz ((l.drop (lo * sz)).take (k * sz))
  ad : s'.a = s.a.map (·.add (lo * sz)) ∨ (s'.a = s.a ∧ s'.c = 0)
  c : s'.c + lo ≤ s.c
theorem SubS.of {s : Sl} {sz lo hi mx : Nat} (h1 : lo ≤ hi) (h2 : hi ≤ mx) (h3 : mx ≤ s.c) : SubS s ⟨if mx = lo then s.a else s.a.map (·.add (lo * sz)), hi - lo, mx - lo⟩ sz lo (hi - lo) := by
  refine ⟨rfl, ?_, ?_, by simp; omega⟩
  · intro ρ L l hr hn w R hR hs
    have h := hr w R hR hs
    unfold rdSl at h ⊢
    by_cases e : mx = lo
    · have e2 : hi - lo = 0 := by omega
      simp only [e2, Nat.zero_mul, List.take_zero]
      split <;> simp [rdN]
    · simp only [e, if_false]
      cases ha : s.a with
      | none => rw [ha] at h; simp only [Option.some.injEq] at h; subst h; simp
      | some a =>
        rw [ha] at h
        simp only [Option.map_some]
        refine rdN_sub h ?_
        rw [← Nat.add_mul]; exact Nat.mul_le_mul_right _ hn
  · by_cases e : mx = lo
    · right; simp [e]
    · left; simp [e]
theorem Tri.slS {s : Sl} {lo hi mx : Option Int} {sz : Nat} {f : Sl → G β} (i j m : Nat) (hi' : lo.getD 0 = (i : Int)) (hj : hi.getD s.n = (j : Int)) (hm : mx.getD s.c = (m : Int)) (h1 : i ≤ j) (h2 : j ≤ m) (h3 : m ≤ s.c) (h : ∀ s', SubS s s' sz i (j - i) → s'.c = m - i → Tri ρ L (f s') C) : Tri ρ L (Lg.slS s lo hi mx sz f) C := fun w R hR hs => by
  refine ⟨by rw [hi', hj, hm]; omega, ?_⟩
  have e1 : (lo.getD 0).toNat = i := by rw [hi']; rfl
  have e2 : (hi.getD s.n).toNat = j := by rw [hj]; rfl
  have e3 : (mx.getD s.c).toNat = m := by rw [hm]; rfl
  rw [e1, e2, e3]
  exact h _ (SubS.of h1 h2 h3) rfl w R hR hs
theorem Tri.slStr {s : ByteArray} {lo hi : Option Int} {f : ByteArray → G β} (i j : Nat) (hi' : lo.getD 0 = (i : Int)) (hj : hi.getD s.size = (j : Int)) (h1 : i ≤ j) (h2 : j ≤ s.size) (h : Tri ρ L (f (s.extract i j)) C) : Tri ρ L (Lg.slStr s lo hi f) C := fun w R hR hs => by
  refine ⟨by rw [hi', hj]; omega, ?_⟩
  have e1 : (lo.getD 0).toNat = i := by rw [hi']; rfl
  have e2 : (hi.getD s.size).toNat = j := by rw [hj]; rfl
  rw [e1, e2]
  exact h w R hR hs
theorem Tri.slA0 {a : Addr} {n sz : Nat} {f : Sl → G β} (h : Tri ρ L (f ⟨some a, n, n⟩) C) : Tri ρ L (Lg.slA a n none none sz f) C := fun w R hR hs => by
  refine ⟨by simp, ?_⟩
  have e : (some (if n = ((none : Option Int).getD 0).toNat then a else a.add (((none : Option Int).getD 0).toNat * sz)) : Option Addr) = some a := by
    split <;> simp [Addr.add]
  rw [e]
  simpa using h w R hR hs
theorem Rd.nil {s : Sl} {sz : Nat} (h : s.n = 0) : Rd ρ L s sz [] := fun w R hR hs => by
  unfold rdSl; rw [h]; cases s.a <;> simp [rdN]
theorem Rd.pts {b o : Nat} {cs l : List Value} {s : Sl} {sz : Nat} (ha : s.a = some ⟨b, o, none⟩) (hl : o + s.n * sz ≤ cs.length) (h : (cs.drop o).take (s.n * sz) = l) : Rd ρ (pts b cs :: L) s sz l := fun w R hR hs => by
  obtain ⟨e, lo, hi, hf, hb⟩ := hs.block
  unfold rdSl
  rw [ha]
  simp only
  rw [rdN_block hb (by omega), Nat.add_zero, h]

/-! ### 2. Slices of one's own -/
def row (s : Sl) (sz : Nat) (l : List Value) : Assn := fun h => l.length = s.n * sz ∧ s.n ≤ s.c ∧
  ((s.a = none ∧ s.c = 0 ∧ h = Hp.none) ∨ ∃ b o cs, s.a = some ⟨b, o, none⟩ ∧ o + s.c * sz ≤ cs.length ∧ (cs.drop o).take l.length = l ∧ pts b cs h)
theorem Rd.row {s : Sl} {sz : Nat} {l : List Value} : Rd ρ (row s sz l :: L) s sz l := fun w R hR hs => by
  obtain ⟨k, ⟨h1, h2, d, rfl, ⟨hl, hc, hx⟩, hr⟩, d2, i⟩ := hs
  rcases hx with ⟨ha, hc0, rfl⟩ | ⟨b, o, cs, ha, hb, hv, hp⟩
  · have : s.n = 0 := by omega
    rw [this] at hl; simp at hl; subst hl
    simp [rdSl, ha]
  · have hn : s.n * sz ≤ s.c * sz := Nat.mul_le_mul_right _ hc
    exact Rd.pts (ρ := ρ) (L := L) ha (by omega) (by rw [← hl]; exact hv) w R hR ⟨h1.or h2, ⟨h1, h2, d, rfl, hp, hr⟩, d2, i⟩
theorem Tri.rowLen {s : Sl} {sz : Nat} {l : List Value} {m : G β} (h : l.length = s.n * sz → s.n ≤ s.c → Tri ρ (row s sz l :: L) m C) : Tri ρ (row s sz l :: L) m C := fun w R hR hs => by
  have hs0 := hs
  obtain ⟨k, ⟨h1, h2, d, e, ⟨hl, hc, hx⟩, hr⟩, d2, i⟩ := hs
  exact h hl hc w R hR hs0
theorem Tri.nilRow {sz : Nat} {m : G β} (h : Tri ρ (row Sl.nil sz [] :: L) m C) : Tri ρ L m C := fun w R hR ⟨k, hs, d, i⟩ =>
  h w R hR ⟨k, ⟨Hp.none, k, (Hp.dis_none k).symm, rfl, ⟨by simp [Sl.nil], by simp [Sl.nil], .inl ⟨rfl, rfl, rfl⟩⟩, hs⟩, d, i⟩
/-- opened: nothing is there, or a block -/
theorem Tri.rowOpen {s : Sl} {sz : Nat} {l : List Value} {m : G β} (h0 : s.a = none → s.n = 0 → s.c = 0 → l = [] → Tri ρ L m C)
    (h1 : ∀ b o cs, s.a = some ⟨b, o, none⟩ → o + s.c * sz ≤ cs.length → (cs.drop o).take l.length = l → l.length = s.n * sz → s.n ≤ s.c → Tri ρ (pts b cs :: L) m C) : Tri ρ (row s sz l :: L) m C := fun w R hR hs => by
  obtain ⟨k, ⟨k1, k2, d, rfl, ⟨hl, hc, hx⟩, hr⟩, d2, i⟩ := hs
  rcases hx with ⟨ha, hc0, rfl⟩ | ⟨b, o, cs, ha, hb, hv, hp⟩
  · have e : s.n = 0 := by omega
    rw [e] at hl; simp at hl
    exact h0 ha e hc0 hl w R hR ⟨k2, hr, by rwa [Hp.none_or] at d2, by rwa [Hp.none_or] at i⟩
  · exact h1 b o cs ha hb hv hl hc w R hR ⟨k1.or k2, ⟨k1, k2, d, rfl, hp, hr⟩, d2, i⟩
/-- closed -/
theorem Tri.rowClose {b o : Nat} {cs : List Value} {s : Sl} {sz : Nat} {l : List Value} {m : G β} (ha : s.a = some ⟨b, o, none⟩) (hb : o + s.c * sz ≤ cs.length) (hl : l.length = s.n * sz) (hc : s.n ≤ s.c) (hv : (cs.drop o).take l.length = l) (h : Tri ρ (row s sz l :: L) m C) : Tri ρ (pts b cs :: L) m C := fun w R hR hs => by
  obtain ⟨k, ⟨k1, k2, d, rfl, hp, hr⟩, d2, i⟩ := hs
  exact h w R hR ⟨k1.or k2, ⟨k1, k2, d, rfl, ⟨hl, hc, .inr ⟨b, o, cs, ha, hb, hv, hp⟩⟩, hr⟩, d2, i⟩
theorem Tri.weak {A A' : Assn} {m : G β} (ha : ∀ h, A h → A' h) (h : Tri ρ (A' :: L) m C) : Tri ρ (A :: L) m C := fun w R hR hs => by
  obtain ⟨k, ⟨k1, k2, d, e, hp, hr⟩, d2, i⟩ := hs
  exact h w R hR ⟨k, ⟨k1, k2, d, e, ha _ hp, hr⟩, d2, i⟩
/-- a part of a slice of one's own is one -/
theorem SubS.row {s s' : Sl} {sz lo n : Nat} (hs : SubS s s' sz lo n) {l : List Value} (hn : lo + n ≤ s.n) (hc' : n ≤ s'.c) {h : Hp} (hr : row s sz l h) : Lg.row s' sz ((l.drop (lo * sz)).take (n * sz)) h := by
  obtain ⟨hl, hc, hx⟩ := hr
  have hm : lo * sz + n * sz ≤ s.n * sz := by rw [← Nat.add_mul]; exact Nat.mul_le_mul_right _ hn
  have hl' : ((l.drop (lo * sz)).take (n * sz)).length = s'.n * sz := by rw [hs.n]; simp; omega
  refine ⟨hl', by rw [hs.n]; exact hc', ?_⟩
  rcases hx with ⟨ha, hc0, rfl⟩ | ⟨b, o, cs, ha, hb, hv, hp⟩
  · left
    refine ⟨?_, by have := hs.c; omega, rfl⟩
    rcases hs.ad with h | ⟨h, _⟩ <;> rw [h, ha] <;> rfl
  · right
    have hcm : s'.c * sz + lo * sz ≤ s.c * sz := by rw [← Nat.add_mul]; exact Nat.mul_le_mul_right _ hs.c
    rcases hs.ad with h | ⟨h, h0⟩
    · refine ⟨b, o + lo * sz, cs, by rw [h, ha]; simp [addr_add], by omega, ?_, hp⟩
      rw [hl', hs.n]
      rw [← hv, List.drop_take, List.take_take, List.drop_drop, Nat.min_eq_left (by omega)]
    · refine ⟨b, o, cs, by rw [h, ha], by rw [h0]; omega, ?_, hp⟩
      have : n = 0 := by omega
      subst this; simp
theorem one_take {l : List Value} (h : l.all one = true) (n : Nat) : (l.take n).all one = true := by
  rw [List.all_eq_true] at h ⊢
  exact fun x hx => h x (List.mem_of_mem_take hx)
/-- a store into an element -/
theorem Tri.stRow {s : Sl} {sz i : Nat} {l : List Value} {x : Addr} {v : Value} {vs : List Value} {f : G β} (hx : Spot ρ s sz i x) (hi : i < s.n) (hv : v.cells.toList = vs) (hn : vs.length = sz) (ho : vs.all one = true) (h : Tri ρ (row s sz (splice l (i * sz) vs) :: L) f C) : Tri ρ (row s sz l :: L) (Lg.st x v f) C := by
  refine Tri.rowOpen (fun ha hn => ?_) (fun b o cs ha hb hv' hl hc => ?_)
  · omega
  · unfold Spot at hx
    rw [ha] at hx
    simp only [Option.map_some, Option.some.injEq, addr_add] at hx
    subst hx
    have h2 : i * sz + sz ≤ s.n * sz := by
      have : (i + 1) * sz ≤ s.n * sz := Nat.mul_le_mul_right _ hi
      rw [Nat.add_mul, Nat.one_mul] at this; exact this
    have h3 : s.n * sz ≤ s.c * sz := Nat.mul_le_mul_right _ hc
    refine Tri.stB hv (by omega) ho ?_
    have hls : (splice l (i * sz) vs).length = l.length := splice_length (by omega)
    refine Tri.rowClose ha (by rw [splice_length (by omega)]; exact hb) (by rw [hls]; exact hl) hc ?_ h
    rw [hls]
    have hd : ∀ j, j < l.length → cs[o + j]? = l[j]? := fun j hj => by
      have := congrArg (fun t => t[j]?) hv'
      simp only [List.getElem?_take, hj, if_true, List.getElem?_drop] at this
      exact this
    apply List.ext_getElem?
    intro j
    simp only [List.getElem?_take, List.getElem?_drop, splice]
    by_cases hj : j < l.length
    · simp only [hj, if_true]
      rw [List.append_assoc, List.append_assoc, List.getElem?_append, List.getElem?_append, List.getElem?_append, List.getElem?_append]
      simp only [List.length_take, List.getElem?_take, List.getElem?_drop]
      have m1 : min (o + i * sz) cs.length = o + i * sz := by omega
      have m2 : min (i * sz) l.length = i * sz := by omega
      rw [m1, m2]
      by_cases c1 : j < i * sz
      · have c2 : o + j < o + i * sz := by omega
        simp only [c1, c2, if_true]; exact hd j hj
      · have c2 : ¬ (o + j < o + i * sz) := by omega
        simp only [c1, c2, if_false]
        have e1 : o + j - (o + i * sz) = j - i * sz := by omega
        rw [e1]
        by_cases c3 : j - i * sz < vs.length
        · simp only [c3, if_true]
        · simp only [c3, if_false]
          have := hd (i * sz + vs.length + (j - i * sz - vs.length)) (by omega)
          rw [← this]
          congr 1
          omega
    · simp only [hj, if_false]
      symm
      apply List.getElem?_eq_none
      have := hls
      unfold splice at this
      omega
theorem Tri.bytesOf {e : TypeId} {t : ByteArray} {f : Sl → G β} (h : ∀ s', s'.n = t.size → s'.a ≠ none → Tri ρ (row s' 1 (bytes t) :: L) (f s') C) : Tri ρ L (Lg.bytesOf e t f) C := fun w R hR hs c hc => by
  have hlen : (bytesRow t c).toList.length = c := by simp [bytesRow]; have : t.data.size = t.size := rfl; omega
  have h1 := (hs.same (w' := w.drew) rfl).alloc (bytesRow t c).toList e (bytesRow t c).size ((bytesRow t c).size + 1) (.inr (by simp))
  refine Tri.after ((Ext.drew w).trans (Ext.alloc _ _)) ?_
  refine Tri.rowClose (b := w.heap.size) (o := 0) (cs := (bytesRow t c).toList) (s := ⟨some ⟨w.heap.size, 0, none⟩, t.size, c⟩) (sz := 1) (l := bytes t) rfl (by simp only [hlen]; omega) ?_ hc ?_ (h _ rfl (by simp)) _ R hR h1
  · rw [bytes_length, Nat.mul_one]
  · have e2 : (bytesRow t c).toList = bytes t ++ List.replicate (c - t.size) (.int .u8 0) := by
      simp [bytesRow, bytes, byt]
    rw [e2]; simp
/-- n zeroes -/
def zs (z : List Value) (n : Nat) : List Value := (List.replicate n z).flatten
theorem zs_length (z : List Value) (n : Nat) : (zs z n).length = n * z.length := by simp [zs]
theorem zs_one (z : Value) (n : Nat) : zs [z] n = List.replicate n z := by
  unfold zs; induction n with
  | zero => rfl
  | succ n ih => simp [List.replicate_succ, ih]
theorem zeroCells_eq (z : List Value) (n : Nat) : Builtin.zeroCells z.toArray n = (zs z n).toArray := by
  apply Array.ext'
  simp only [Builtin.zeroCells, Array.toList_map, Array.toList_range]
  apply List.ext_getElem?
  intro i
  simp only [List.getElem?_map]
  induction n generalizing i with
  | zero => simp [zs]
  | succ n ih =>
    have hz : zs z (n + 1) = z ++ zs z n := by simp [zs, List.replicate_succ]
    rw [hz, List.getElem?_append]
    simp only [List.size_toArray] at ih ⊢
    by_cases h : i < z.length
    · have hm : (n + 1) * z.length = n * z.length + z.length := by rw [Nat.add_mul, Nat.one_mul]
      simp only [h, if_true]
      rw [List.getElem?_range (by omega)]
      simp [Nat.mod_eq_of_lt h, List.getElem?_eq_getElem h, getElem!_def]
    · simp only [h, if_false]
      rw [← ih (i - z.length)]
      have hm : (n + 1) * z.length = n * z.length + z.length := by rw [Nat.add_mul, Nat.one_mul]
      by_cases h2 : i < (n + 1) * z.length
      · rw [List.getElem?_range h2, List.getElem?_range (by omega)]
        simp only [Option.map_some]
        congr 2
        conv => lhs; rw [show i = (i - z.length) + z.length by omega]
        rw [Nat.add_mod_right]
      · rw [List.getElem?_eq_none (by simp; omega), List.getElem?_eq_none (by simp; omega)]
theorem Tri.mk {e : TypeId} {sz bytes : Nat} {z : List Value} {len cap : Int} {f : Sl → G β} (n : Nat) (hz : z.length = sz) (h1 : len = (n : Int)) (h2 : cap = (n : Int)) (h3 : bytes * n ≤ 281474976710656) (h4 : n ≤ 9223372036854775807) (h : ∀ s', s'.n = n → s'.c = n → s'.a ≠ none → Tri ρ (row s' sz (zs z n) :: L) (f s') C) : Tri ρ L (Lg.mk e sz bytes z len cap f) C := fun w R hR hs => by
  subst h1; subst h2
  have hb : (bytes : Int) * (n : Int) ≤ 281474976710656 := by rw [← Int.natCast_mul]; omega
  refine ⟨⟨by omega, by omega, hb, by omega⟩, ?_⟩
  simp only [Int.toNat_natCast, zeroCells_eq]
  refine Tri.after (Ext.alloc w _) ?_
  refine Tri.rowClose (b := w.heap.size) (o := 0) (cs := zs z n) (s := ⟨some ⟨w.heap.size, 0, none⟩, n, n⟩) (sz := sz) (l := zs z n) rfl ?_ ?_ (Nat.le_refl _) (by simp) (h _ rfl rfl (by simp)) _ R hR (hs.alloc _ e 0 0 (.inl rfl))
  · rw [zs_length, hz]; simp
  · rw [zs_length, hz]
theorem Tri.mkB {e : TypeId} {sz bytes : Nat} {z : List Value} {len cap : Int} {f : Sl → G β} (n : Nat) (hz : z.length = sz) (h1 : len = (n : Int)) (h2 : cap = (n : Int)) (h3 : bytes * n ≤ 281474976710656) (h4 : n ≤ 9223372036854775807) (h : ∀ b, Tri ρ (pts b (zs z n) :: L) (f ⟨some ⟨b, 0, none⟩, n, n⟩) C) : Tri ρ L (Lg.mk e sz bytes z len cap f) C := fun w R hR hs => by
  subst h1; subst h2
  have hb : (bytes : Int) * (n : Int) ≤ 281474976710656 := by rw [← Int.natCast_mul]; omega
  refine ⟨⟨by omega, by omega, hb, by omega⟩, ?_⟩
  simp only [Int.toNat_natCast, zeroCells_eq]
  refine Tri.after (Ext.alloc w _) ?_
  exact h _ _ R hR (hs.alloc _ e 0 0 (.inl rfl))
/-- make with room -/
theorem Tri.mkC {e : TypeId} {sz bytes : Nat} {z : List Value} {len cap : Int} {f : Sl → G β} (n : Nat) (hz : z.length = sz) (h1 : len = 0) (h2 : cap = (n : Int)) (h3 : bytes * n ≤ 281474976710656) (h4 : n ≤ 9223372036854775807) (h : ∀ s', s'.n = 0 → Tri ρ (row s' sz [] :: L) (f s') C) : Tri ρ L (Lg.mk e sz bytes z len cap f) C := fun w R hR hs => by
  subst h1; subst h2
  have hb : (bytes : Int) * (n : Int) ≤ 281474976710656 := by rw [← Int.natCast_mul]; omega
  refine ⟨⟨by omega, by omega, hb, by omega⟩, ?_⟩
  simp only [Int.toNat_natCast, zeroCells_eq]
  refine Tri.after (Ext.alloc w _) ?_
  refine Tri.rowClose (b := w.heap.size) (o := 0) (cs := zs z n) (s := ⟨some ⟨w.heap.size, 0, none⟩, (0 : Int).toNat, n⟩) (sz := sz) (l := []) rfl ?_ (by simp) (by simp) (by simp) (h _ rfl) _ R hR (hs.alloc _ e 0 0 (.inl rfl))
  rw [zs_length, hz]; simp

/-! ### 3. append, copy -/
theorem Tri.app {e : TypeId} {sz bytes : Nat} {z : List Value} {s : Sl} {n : Nat} {src : World → Option (List Value)} {f : Sl → G β} {l new : List Value} (hz : z.length = sz)
    (hsrc : ∀ w R, ρ.le R → Stands (row s sz l :: L) R w → src w = some new) (hn : new.length = n * sz) (ho : new.all one = true) (hsz : 0 < sz) (hb0 : 0 < bytes) (hb : (s.n + n) * bytes ≤ 140737488355328)
    (h : ∀ s', s'.n = s.n + n → Tri ρ (row s' sz (l ++ new) :: L) (f s') C) : Tri ρ (row s sz l :: L) (Lg.app e sz bytes z s n src f) C := fun w R hR hs => by
  have hs0 := hs
  refine ⟨fun hfit => ?_, fun hgrow => ?_⟩
  · refine ⟨new, hsrc w R hR hs, ?_⟩
    obtain ⟨k, ⟨k1, k2, d, rfl, ⟨hl, hc, hx⟩, hr⟩, d2, i⟩ := hs
    rcases hx with ⟨ha, hc0, rfl⟩ | ⟨b, o, cs, ha, hb', hv, hp⟩
    · have e1 : s.n = 0 := by omega
      have e2 : n = 0 := by omega
      subst e2
      have e3 : new = [] := by simpa using hn
      subst e3
      refine ⟨w, by rw [ha], ?_⟩
      have := h ⟨s.a, s.n + 0, s.c⟩ rfl
      rw [List.append_nil] at this
      exact this w R hR hs0
    · have e3 : s.n * sz + n * sz ≤ s.c * sz := by rw [← Nat.add_mul]; exact Nat.mul_le_mul_right _ hfit
      obtain ⟨w1, h1, h2, h3⟩ := Stands.stN (o := o + s.n * sz) (i := 0) (l := new) (cs := cs) (b := b) (R := R) (L := L) (w := w) ⟨k1.or k2, ⟨k1, k2, d, rfl, hp, hr⟩, d2, i⟩ (by omega) ho
      refine ⟨w1, by rw [ha]; simp only [addr_add]; exact h1, ?_⟩
      refine Tri.after h2 ?_
      have hlen : (splice cs (o + s.n * sz + 0) new).length = cs.length := splice_length (by omega)
      refine Tri.rowClose (b := b) (o := o) (s := ⟨s.a, s.n + n, s.c⟩) (sz := sz) (l := l ++ new) ha (by rw [hlen]; exact hb') ?_ hfit ?_ (h _ rfl) _ R hR h3
      · simp [hl, hn, Nat.add_mul]
      · unfold splice
        simp only [Nat.add_zero]
        have h4 : (cs.take (o + s.n * sz)).length = o + s.n * sz := by simp; omega
        rw [List.append_assoc, List.drop_append_of_le_length (by omega), List.drop_take]
        have h5 : o + s.n * sz - o = l.length := by omega
        rw [h5, hv, List.length_append, List.take_length_add_append, List.take_left]
  · have hd : s.n + n ≤ Builtin.nextslicecap (s.n + n) s.c := le_nextslicecap hgrow
    refine ⟨⟨growslice_fits hgrow hb, hb0⟩, l, new, Rd.row w R hR hs, hsrc w R hR hs, fun c hc => ?_⟩
    have hl : l.length = s.n * sz := by obtain ⟨k, ⟨k1, k2, d, rfl, ⟨hl, hc, hx⟩, hr⟩, d2, i⟩ := hs; exact hl
    refine Tri.after ((Ext.drew w).trans (Ext.alloc _ _)) ?_
    have h1 := (Stands.drop (M := [row s sz l]) (L := L) hs).same (w' := w.drew) rfl
    have h2 := h1.alloc (l ++ new ++ zs z (c - (s.n + n))) e 0 0 (.inl rfl)
    rw [zeroCells_eq, List.append_toArray]
    refine Tri.rowClose (b := w.heap.size) (o := 0) (s := ⟨some ⟨w.heap.size, 0, none⟩, s.n + n, c⟩) (sz := sz) (l := l ++ new) rfl ?_ ?_ hc ?_ (h _ rfl) _ R hR h2
    · simp only [List.length_append, zs_length, hz, hl, hn, Nat.zero_add, ← Nat.add_mul]
      exact Nat.mul_le_mul_right _ (by omega)
    · simp [hl, hn, Nat.add_mul]
    · rw [List.drop_zero, List.take_left]
theorem Tri.appS {e : TypeId} {sz bytes : Nat} {z : List Value} {s x : Sl} {f : Sl → G β} {l new : List Value} (hr : Rd ρ L x sz new) (hn : new.length = x.n * sz) (ho : new.all one = true) (hb : (s.n + x.n) * bytes ≤ 140737488355328)
    (h : ∀ s', s'.n = s.n + x.n → Tri ρ (row s' sz (l ++ new) :: L) (f s') C) (hz : z.length = sz := by rfl) (hsz : 0 < sz := by decide) (hb0 : 0 < bytes := by decide) : Tri ρ (row s sz l :: L) (Lg.appS e sz bytes z s x f) C :=
  Tri.app hz (fun w R hR hs => hr.tail w R hR hs) hn ho hsz hb0 hb h
theorem Tri.appT {e : TypeId} {z : List Value} {s : Sl} {x : ByteArray} {f : Sl → G β} {l : List Value} (hb : s.n + x.size ≤ 140737488355328)
    (h : ∀ s', s'.n = s.n + x.size → Tri ρ (row s' 1 (l ++ bytes x) :: L) (f s') C) (hz : z.length = 1 := by rfl) : Tri ρ (row s 1 l :: L) (Lg.appT e z s x f) C :=
  Tri.app hz (fun w R hR hs => rfl) (by rw [bytes_length]; omega) (bytes_one x) (by omega) (by omega) (by omega) h
theorem Tri.appZ {e : TypeId} {sz bytes : Nat} {z : List Value} {s : Sl} {k : Int} {f : Sl → G β} {l : List Value} (n : Nat) (hk : k = (n : Int)) (hz : z.length = sz) (ho : z.all one = true) (hsz : 0 < sz) (hb0 : 0 < bytes) (hb : (s.n + n) * bytes ≤ 140737488355328)
    (h : ∀ s', s'.n = s.n + n → Tri ρ (row s' sz (l ++ zs z n) :: L) (f s') C) : Tri ρ (row s sz l :: L) (Lg.appZ e sz bytes z s k f) C := by
  subst hk
  have h1 : n * bytes ≤ 140737488355328 := Nat.le_trans (Nat.mul_le_mul_right _ (by omega)) hb
  have h2 : ((bytes * n : Nat) : Int) ≤ 140737488355328 := by rw [Nat.mul_comm]; omega
  have h3 : s.n + n ≤ 140737488355328 := Nat.le_trans (Nat.le_mul_of_pos_right _ hb0) hb
  refine Tri.chk ⟨by omega, by rw [← Int.natCast_mul]; omega, by omega⟩ ?_
  refine Tri.app hz (fun w R hR hs => rfl) ?_ ?_ hsz hb0 (by simpa using hb) (by simpa [zeroCells_eq] using h)
  · simp [zeroCells_eq, zs_length, hz]
  · simp only [zeroCells_eq]
    rw [List.all_eq_true] at ho ⊢
    intro x hx
    simp only [zs, List.mem_flatten, List.mem_replicate] at hx
    obtain ⟨y, ⟨_, rfl⟩, hx⟩ := hx
    exact ho x hx
/-- copy into a block -/
theorem Tri.cpyB {sz b o : Nat} {cs l : List Value} {d s : Sl} {f : Int → G β} (hd : d.a = some ⟨b, o, none⟩) (hr : Rd ρ (pts b cs :: L) s sz l) (hl : l.length = s.n * sz) (ho : l.all one = true) (hb : o + d.n * sz ≤ cs.length)
    (h : Tri ρ (pts b (splice cs o (l.take (min s.n d.n * sz))) :: L) (f ((min s.n d.n : Nat) : Int)) C) : Tri ρ (pts b cs :: L) (Lg.cpy sz d s f) C := fun w R hR hs => by
  have h1 := hr w R hR hs
  have hm : min s.n d.n * sz ≤ s.n * sz := Nat.mul_le_mul_right _ (Nat.min_le_left _ _)
  have hm2 : min s.n d.n * sz ≤ d.n * sz := Nat.mul_le_mul_right _ (Nat.min_le_right _ _)
  have h2 : rdSl w ⟨s.a, min s.n d.n, s.c⟩ sz = some (l.take (min s.n d.n * sz)) := by
    unfold rdSl at h1 ⊢
    cases ha : s.a with
    | none => rw [ha] at h1; simp at h1; subst h1; simp
    | some a => rw [ha] at h1; have h9 := rdN_sub (k := 0) (m := min s.n d.n * sz) h1 (by omega); rw [Addr.add_zero, List.drop_zero] at h9; exact h9
  have hl' : (l.take (min s.n d.n * sz)).length = min s.n d.n * sz := by simp; omega
  obtain ⟨w1, h3, e1, h4⟩ := hs.stN (o := o) (i := 0) (l := l.take (min s.n d.n * sz)) (by omega) (one_take ho _)
  exact ⟨_, h2, w1, by rw [hd]; exact h3, (f _).mono (fun _ _ ⟨e2, k⟩ => ⟨e1.trans e2, k⟩) (h w1 R hR h4)⟩
/-- a copy of nothing -/
theorem Tri.cpy0 {sz : Nat} {d s : Sl} {f : Int → G β} (h0 : min s.n d.n = 0) (h : Tri ρ L (f 0) C) : Tri ρ L (Lg.cpy sz d s f) C := fun w R hR hs => by
  refine ⟨[], ?_, w, ?_, ?_⟩
  · unfold rdSl; simp only [h0, Nat.zero_mul]; cases s.a <;> simp [rdN]
  · cases d.a <;> simp [Lg.stN]
  · rw [h0]; exact h w R hR hs
theorem Stands.mark {R : Hp} {w : World} {b o : Nat} {cs : List Value} (hs : Stands (pts b cs :: L) R w) : Stands (pts b cs :: L) R (markW w ⟨b, o, none⟩) ∧ Ext w (markW w ⟨b, o, none⟩) := by
  obtain ⟨k, ⟨h1, h2, d, rfl, ⟨e, lo, hi, hf, rfl⟩, hl⟩, d2, j⟩ := hs
  have hb : w.heap[b]? = some (Obj.cells cs.toArray e (lo, hi)) := j b _ (by simp [Hp.or, Hp.one])
  have hm : markW w ⟨b, o, none⟩ = w.freeze ⟨b, cs.length, none⟩ 1 := by
    simp [markW, World.shape?, hb]
  have dd : ∀ o o' (h : Hp), (Hp.one b o).dis h → (Hp.one b o').dis h := fun o o' h hd x => by
    by_cases e1 : x = b
    · rcases hd x with h3 | h3
      · simp [Hp.one, e1] at h3
      · exact .inr h3
    · exact .inl (by simp [Hp.one, e1])
  obtain ⟨d3, d4⟩ := Hp.or_dis.1 d2
  rw [hm]
  refine ⟨?_, ⟨rfl, rfl, rfl, by simp [World.freeze]⟩⟩
  obtain ⟨lo', hi', hf', hfr⟩ : ∃ lo' hi', (lo' = hi' ∨ cs.length ≤ lo') ∧ (if lo == hi then (cs.length, cs.length + 1) else (min lo cs.length, max hi (cs.length + 1))) = (lo', hi') := by
    by_cases e1 : lo = hi
    · exact ⟨cs.length, cs.length + 1, .inr (Nat.le_refl _), by simp [e1]⟩
    · refine ⟨min lo cs.length, max hi (cs.length + 1), .inr ?_, by simp [e1]⟩
      rcases hf with h | h
      · exact absurd h e1
      · omega
  refine ⟨_, ⟨Hp.one b (.cells cs.toArray e (lo', hi')), h2, dd _ _ _ d, rfl, ⟨e, lo', hi', hf', rfl⟩, hl⟩, Hp.or_dis.2 ⟨dd _ _ _ d3, d4⟩, ?_⟩
  intro x o' hx
  rw [Hp.or_assoc] at hx j
  by_cases e1 : x = b
  · subst e1
    simp only [Hp.or, Hp.one, if_true] at hx
    simp only [Option.some.injEq] at hx; subst hx
    rw [← hfr]
    simp [World.freeze, Array.getElem?_modify, hb]
  · have : (w.freeze ⟨b, cs.length, none⟩ 1).heap[x]? = w.heap[x]? := by
      simp only [World.freeze, Nat.one_ne_zero, if_false, Array.getElem?_modify]
      rw [if_neg (by simpa using Ne.symm e1)]
    rw [this]
    refine j x o' ?_
    simp only [Hp.or, Hp.one, e1, if_false] at hx ⊢
    exact hx
theorem Tri.mrk {b o n c : Nat} {cs : List Value} {f : G β} (h : Tri ρ (pts b cs :: L) f C) : Tri ρ (pts b cs :: L) (Lg.mrk ⟨some ⟨b, o, none⟩, n, c⟩ f) C := fun w R hR hs =>
  ⟨_, rfl, f.mono (fun _ _ ⟨e2, k⟩ => ⟨hs.mark.2.trans e2, k⟩) (h _ R hR hs.mark.1)⟩
end Go.Lg

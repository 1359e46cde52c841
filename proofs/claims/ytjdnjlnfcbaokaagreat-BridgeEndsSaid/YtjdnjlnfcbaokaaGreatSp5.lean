/-
  SPECS, 5: ring. Own work.
-/
import Derived.Test.YtjdnjlnfcbaokaaGreatSp4
set_option linter.unusedVariables false
set_option linter.unusedSimpArgs false
namespace Go.Proofs.YtjdnjlnfcbaokaaGreat
open Go Go.Lg
variable {α β σ τ : Type} {ρ : Hp} {L M : As} {K : Nat}

theorem mod2 {x m : Nat} (h : x < 2 * m) : x % m = if x < m then x else x - m := by
  split
  · rename_i h1; exact Nat.mod_eq_of_lt h1
  · rename_i h1; rw [Nat.mod_eq_sub_mod (by omega), Nat.mod_eq_of_lt (by omega)]
/-- bytes q lie in cs, from 'at_' on, around -/
def Around (cs : List UInt8) (at_ : Nat) (q : List UInt8) : Prop := ∀ i, i < q.length → cs[(at_ + i) % cs.length]? = q[i]?
def ringC (b : Nat) (most at_ n : Nat) : List Value := [.slice (some ⟨b, 0, none⟩) most most, .int .i64 at_, .int .i64 n]
/-- a ring at block r, of so many bytes, that holds q -/
def ringI (r most : Nat) (q : List UInt8) : Assn := fun h => q.length ≤ most ∧ 0 < most ∧ most ≤ 65536 ∧ ∃ b at_ cs, at_ < most ∧ cs.length = most ∧ Around cs at_ q ∧ sat [pts r (ringC b most at_ q.length), pts b (bl cs)] h
theorem ringOpen {r most : Nat} {q : List UInt8} {m : G β} {C : β → As → Prop}
    (h : q.length ≤ most → 0 < most → most ≤ 65536 → ∀ b at_ cs, at_ < most → cs.length = most → Around cs at_ q → Tri ρ (pts r (ringC b most at_ q.length) :: pts b (bl cs) :: L) m C) : Tri ρ (ringI r most q :: L) m C := by
  refine Tri.openA (P := fun N => q.length ≤ most ∧ 0 < most ∧ most ≤ 65536 ∧ ∃ b at_ cs, at_ < most ∧ cs.length = most ∧ Around cs at_ q ∧ N = [pts r (ringC b most at_ q.length), pts b (bl cs)]) ?_ ?_
  · rintro k ⟨h1, h2, h3, b, at_, cs, h4, h5, h6, h7⟩
    exact ⟨_, ⟨h1, h2, h3, b, at_, cs, h4, h5, h6, rfl⟩, h7⟩
  · rintro N ⟨h1, h2, h3, b, at_, cs, h4, h5, h6, rfl⟩
    exact h h1 h2 h3 b at_ cs h4 h5 h6
theorem ringClose {r most : Nat} {q : List UInt8} {m : G β} {C : β → As → Prop} {b at_ : Nat} {cs : List UInt8} (h1 : q.length ≤ most) (h2 : 0 < most) (h3 : most ≤ 65536) (h4 : at_ < most) (h5 : cs.length = most) (h6 : Around cs at_ q)
    (h : Tri ρ (ringI r most q :: L) m C) : Tri ρ (pts r (ringC b most at_ q.length) :: pts b (bl cs) :: L) m C :=
  Tri.close (N := [pts r (ringC b most at_ q.length), pts b (bl cs)]) (fun k hk => ⟨h1, h2, h3, b, at_, cs, h4, h5, h6, hk⟩) h
theorem ring_New_spec {most : Nat} (h1 : 0 < most) (h2 : most ≤ 65536) : Tri ρ L (ring_New K most) (fun r L' => ∃ b, r = (some ⟨b, 0, none⟩, 0) ∧ L' = ringI b most [] :: L) := by
  unfold ring_New
  refine Tri.val false ?_ ?_
  · refine Tri.ite ?_ ?_
    · intro h; simp at h; omega
    · intro h; exact Tri.ret ⟨by simp; omega, rfl⟩
  simp only [Bool.false_eq_true, if_false]
  refine Tri.mkB most rfl rfl rfl (by omega) (by omega) fun b => ?_
  refine Tri.new fun r => ?_
  have e : zs [.int .u8 (0 : Int)] most = bl (List.replicate most 0) := by rw [zs_one]; simp [bl, byt]
  rw [e]
  exact ringClose (at_ := 0) (q := []) (by simp) h1 h2 h1 (by simp) (by intro i hi; simp at hi) (Tri.ret ⟨r, rfl, rfl⟩)
theorem ring_Len_spec {r most : Nat} {q : List UInt8} : Tri ρ (ringI r most q :: L) (ring_Ring_Len K (some ⟨r, 0, none⟩)) (fun n L' => n = (q.length : Int) ∧ L' = ringI r most q :: L) := by
  unfold ring_Ring_Len
  refine ringOpen fun h1 h2 h3 b at_ cs h4 h5 h6 => ?_
  refine Tri.nn (Tri.ldI (Cell.here (i := 2) rfl) ?_)
  exact ringClose h1 h2 h3 h4 h5 h6 (Tri.ret ⟨rfl, rfl⟩)
theorem ring_Room_spec {r most : Nat} {q : List UInt8} : Tri ρ (ringI r most q :: L) (ring_Ring_Room K (some ⟨r, 0, none⟩)) (fun n L' => n = ((most - q.length : Nat) : Int) ∧ L' = ringI r most q :: L) := by
  unfold ring_Ring_Room
  refine ringOpen fun h1 h2 h3 b at_ cs h4 h5 h6 => ?_
  refine Tri.drw (Tri.nn (Tri.ldSl ⟨some ⟨b, 0, none⟩, most, most⟩ (Cell.here (i := 0) rfl) (Tri.nn (Tri.ldI (Cell.here (i := 2) rfl) ?_))))
  refine Tri.lt ?_
  exact ringClose h1 h2 h3 h4 h5 h6 (Tri.ret ⟨by rw [w64 (by simp; omega) (by simp; omega)]; simp; omega, rfl⟩)
theorem Around.app {cs : List UInt8} {at_ most : Nat} {q l : List UInt8} (h5 : cs.length = most) (ha : Around cs at_ q) (hat : at_ < most) (hq : q.length + l.length ≤ most) :
    let e := (at_ + q.length) % most
    let n := min l.length (most - e)
    Around (splice (splice cs e (l.take n)) 0 (l.drop n)) at_ (q ++ l) := by
  intro e n i hi
  have hm : 0 < most := by omega
  have he : e < most := Nat.mod_lt _ hm
  have hee : e = if at_ + q.length < most then at_ + q.length else at_ + q.length - most := mod2 (by omega)
  have hn : n = if l.length ≤ most - e then l.length else most - e := by simp only [n]; split <;> omega
  have l1 : (l.take n).length = n := by simp; omega
  have l2 : (l.drop n).length = l.length - n := by simp
  have s1 : (splice cs e (l.take n)).length = most := by rw [splice_length (by omega)]; exact h5
  have hne : l.length - n ≤ e := by
    rw [hn]; split
    · omega
    · split at hee <;> omega
  have s2 : (splice (splice cs e (l.take n)) 0 (l.drop n)).length = most := by rw [splice_length (by omega)]; exact s1
  rw [s2]
  simp only [List.length_append] at hi
  have hp : (at_ + i) % most = if at_ + i < most then at_ + i else at_ + i - most := mod2 (by omega)
  rw [splice_get _ _ _ _ (by omega), splice_get _ _ _ _ (by omega)]
  simp only [Nat.not_lt_zero, if_false, Nat.zero_add, Nat.sub_zero, l1, l2]
  by_cases hiq : i < q.length
  · have h7 := ha i hiq
    rw [h5] at h7
    rw [List.getElem?_append_left hiq]
    have c1 : ¬ (at_ + i) % most < l.length - n := by
      rw [hp, hn] at *
      split at hee <;> split <;> split <;> omega
    rw [if_neg c1]
    by_cases c2 : (at_ + i) % most < e
    · rw [if_pos c2]; exact h7
    · rw [if_neg c2]
      have c3 : ¬ (at_ + i) % most < e + n := by
        rw [hp] at c2 ⊢
        split at hee <;> split at c2 <;> split at hn <;> (try split) <;> omega
      rw [if_neg c3]; exact h7
  · rw [List.getElem?_append_right (by omega)]
    by_cases c1 : (at_ + i) % most < l.length - n
    · rw [if_pos c1, List.getElem?_drop]
      congr 1
      rw [hp] at c1 ⊢
      split at hee <;> split at hn <;> split at c1 <;> (try split) <;> omega
    · rw [if_neg c1]
      have c2 : ¬ (at_ + i) % most < e := by
        rw [hp] at c1 ⊢
        split at hee <;> split at hn <;> split at c1 <;> (try split) <;> omega
      rw [if_neg c2]
      have c3 : (at_ + i) % most < e + n := by
        rw [hp] at c1 ⊢
        split at hee <;> split at hn <;> split at c1 <;> (try split) <;> omega
      rw [if_pos c3, List.getElem?_take]
      have c4 : (at_ + i) % most - e = i - q.length := by
        rw [hp] at c1 ⊢
        split at hee <;> split at hn <;> split at c1 <;> (try split) <;> omega
      rw [c4, if_pos (by omega)]
theorem ring_Put_spec {r most : Nat} {q l : List UInt8} {s : Sl} (hr : Rd ρ L s 1 (bl l)) (hn : s.n = l.length) (hc : s.n ≤ s.c) (hl : l.length ≤ 281474976710656) :
    Tri ρ (ringI r most q :: L) (ring_Ring_Put K (some ⟨r, 0, none⟩) s) (fun n L' => n = ((min (most - q.length) l.length : Nat) : Int) ∧ L' = ringI r most (q ++ l.take (min (most - q.length) l.length)) :: L) := by
  unfold ring_Ring_Put
  refine Tri.bnd ring_Room_spec ?_
  rintro _ _ ⟨rfl, rfl⟩
  generalize hk : min (most - q.length) l.length = k
  have e1 : (if ((most - q.length : Nat) : Int) < (s.n : Int) then ((most - q.length : Nat) : Int) else (s.n : Int)) = (k : Int) := by split <;> omega
  rw [e1]
  refine Tri.slS 0 k s.n (by rfl) (by rfl) (by rfl) (by omega) (by omega) hc fun x2 h2 hc2 => ?_
  have hr2 : ∀ {L' : As}, Rd ρ L' s 1 (bl l) → Rd ρ L' x2 1 (bl (l.take k)) := fun h => by
    have := Rd.subB h2 h (by omega); simpa using this
  have hn2 : x2.n = k := h2.n
  refine ringOpen fun h1 h2' h3 b at_ cs h4 h5 h6 => ?_
  have hkl : (l.take k).length = k := by simp; omega
  refine Tri.drw (Tri.nn (Tri.ldI (Cell.here (i := 1) rfl) (Tri.nn (Tri.ldI (Cell.here (i := 2) rfl) (Tri.nn (Tri.ldSl ⟨some ⟨b, 0, none⟩, most, most⟩ (Cell.here (i := 0) rfl) ?_))))))
  refine Tri.chk (by simp; omega) ?_
  refine Tri.lt ?_
  have e2 : Int.tmod (IntKind.wrap .i64 ((at_ : Int) + (q.length : Int))) (most : Int) = (((at_ + q.length) % most : Nat) : Int) := by
    rw [w64 (by omega) (by omega)]
    rw [show (at_ : Int) + (q.length : Int) = ((at_ + q.length : Nat) : Int) by omega]
    rfl
  simp only [e2]
  have happ := Around.app (l := l.take k) h5 h6 h4 (by omega)
  simp only [hkl] at happ
  generalize he : (at_ + q.length) % most = e at happ ⊢
  have helt : e < most := by rw [← he]; exact Nat.mod_lt _ h2'
  refine Tri.nn (Tri.ldSl ⟨some ⟨b, 0, none⟩, most, most⟩ (Cell.here (i := 0) rfl) ?_)
  refine Tri.slS e most most (by rfl) (by rfl) (by rfl) (by omega) (Nat.le_refl _) (Nat.le_refl _) fun x13 h13 hc13 => ?_
  have ha13 : x13.a = some ⟨b, e, none⟩ := by
    rcases h13.ad with h | ⟨_, h⟩
    · rw [h]; simp [addr_add]
    · omega
  have hn13 : x13.n = most - e := h13.n
  refine Tri.pick 1 rfl ?_
  refine Tri.cpyB (l := bl (l.take k)) ha13 (hr2 hr).tail.tail (by rw [bl_length, hkl, hn2]; omega) (bl_one _) (by rw [bl_length, h5, hn13]; omega) ?_
  generalize hn' : min k (most - e) = n at happ
  have e3 : min x2.n x13.n = n := by omega
  simp only [e3, Nat.mul_one]
  rw [bl_take, bl_splice]
  refine Tri.drw (Tri.nn (Tri.ldSl ⟨some ⟨b, 0, none⟩, most, most⟩ (Cell.here (i := 0) rfl).tail ?_))
  refine Tri.slS n k x2.c (by rfl) (by simp [hn2]) (by rfl) (by omega) (by omega) (Nat.le_refl _) fun x17 h17 hc17 => ?_
  have hn17 : x17.n = k - n := h17.n
  have hsl : (splice cs e ((l.take k).take n)).length = most := by rw [splice_length (by simp; omega)]; exact h5
  refine Tri.cpyB (o := 0) (l := bl (((l.take k).drop n).take (k - n))) rfl (Rd.subB h17 (hr2 hr) (by omega)).tail.tail (by rw [bl_length, hn17]; simp; omega) (bl_one _) (by rw [bl_length, hsl]; simp) ?_
  have e4 : min x17.n most = k - n := by omega
  simp only [e4, Nat.mul_one]
  have e6 : (((l.take k).drop n).take (k - n)).take (k - n) = (l.take k).drop n := by rw [List.take_of_length_le (by simp; omega), List.take_of_length_le (by simp; omega)]
  rw [bl_take, e6, bl_splice]
  refine Tri.pick 1 rfl ?_
  refine Tri.nn (Tri.ldI (Cell.here (i := 2) rfl) (Tri.nn ?_))
  rw [hn2, w64 (by omega) (by omega)]
  refine Tri.stB (i := 2) (l := [.int .i64 ((q.length : Int) + (k : Int))]) (by rfl) (by simp [ringC]) rfl ?_
  have e5 : splice (ringC b most at_ q.length) 2 [.int .i64 ((q.length : Int) + (k : Int))] = ringC b most at_ (q ++ l.take k).length := by
    rw [List.length_append, hkl]; simp [ringC, splice]
  rw [e5]
  refine Tri.lt ?_
  exact ringClose (by rw [List.length_append, hkl]; omega) h2' h3 h4 (by rw [splice_length (by rw [hsl]; simp; omega)]; exact hsl) happ (Tri.ret ⟨rfl, rfl⟩)
theorem ring_Peek_spec {r most : Nat} {q : List UInt8} {n : Int} (hn : -9223372036854775808 ≤ n) :
    Tri ρ (ringI r most q :: L) (ring_Ring_Peek K (some ⟨r, 0, none⟩) n) (fun s L' => s.n = (q.take n.toNat).length ∧ L' = row s 1 (bl (q.take n.toNat)) :: ringI r most q :: L) := by
  unfold ring_Ring_Peek
  refine ringOpen fun h1 h2 h3 b at_ cs h4 h5 h6 => ?_
  refine Tri.nn (Tri.ldI (Cell.here (i := 2) rfl) ?_)
  refine Tri.lt ?_
  generalize hk : (q.take n.toNat).length = k
  have hk' : k = min n.toNat q.length := by rw [← hk]; simp
  have e1 : (if (q.length : Int) < (if n < 0 then 0 else n) then (q.length : Int) else (if n < 0 then 0 else n)) = (k : Int) := by
    split <;> split at * <;> omega
  simp only [e1]
  refine Tri.mkB k rfl rfl rfl (by omega) (by omega) fun b4 => ?_
  refine Tri.drw (Tri.nn (Tri.ldSl ⟨some ⟨b, 0, none⟩, most, most⟩ (Cell.here (i := 0) rfl).tail (Tri.nn (Tri.ldI (Cell.here (i := 1) rfl).tail ?_))))
  refine Tri.slS at_ most most (by rfl) (by rfl) (by rfl) (by omega) (Nat.le_refl _) (Nat.le_refl _) fun x9 h9 hc9 => ?_
  have hn9 : x9.n = most - at_ := h9.n
  have rb : ∀ {L' : As}, Rd ρ (pts b (bl cs) :: L') ⟨some ⟨b, 0, none⟩, most, most⟩ 1 (bl cs) := Rd.pts (o := 0) rfl (by rw [bl_length]; dsimp only; omega) (by rw [List.drop_zero, bl_take, List.take_of_length_le (by dsimp only; omega)])
  have e0 : zs [.int .u8 (0 : Int)] k = bl (List.replicate k 0) := by rw [zs_one]; simp [bl, byt]
  rw [e0]
  refine Tri.cpyB (o := 0) (l := bl ((cs.drop at_).take (most - at_))) rfl (Rd.subB h9 rb.tail (by simp; omega)).tail (by rw [bl_length, hn9]; simp; omega) (bl_one _) (by simp [bl_length]) ?_
  generalize hm : min (most - at_) k = m
  have e2 : min x9.n k = m := by omega
  simp only [e2, Nat.mul_one]
  rw [bl_take, List.take_take, Nat.min_eq_left (by omega), bl_splice]
  have hsl : (splice (List.replicate k (0 : UInt8)) 0 ((cs.drop at_).take m)).length = k := by rw [splice_length (by simp; omega)]; simp
  refine Tri.drw ?_
  refine Tri.slS m k k (by rfl) (by rfl) (by rfl) (by omega) (Nat.le_refl _) (Nat.le_refl _) fun x11 h11 hc11 => ?_
  have hn11 : x11.n = k - m := h11.n
  refine Tri.nn (Tri.ldSl ⟨some ⟨b, 0, none⟩, most, most⟩ (Cell.here (i := 0) rfl).tail ?_)
  have fin : ∀ o : List UInt8, o = q.take n.toNat → o.length = k → Tri ρ (pts b4 (bl o) :: pts r (ringC b most at_ q.length) :: pts b (bl cs) :: L) (ret (⟨some ⟨b4, 0, none⟩, k, k⟩ : Sl)) (fun s L' => s.n = k ∧ L' = row s 1 (bl (q.take n.toNat)) :: ringI r most q :: L) := by
    intro o ho hol
    subst ho
    refine Tri.rowClose (s := ⟨some ⟨b4, 0, none⟩, k, k⟩) (sz := 1) (l := bl (q.take n.toNat)) rfl (by rw [bl_length]; dsimp only; omega) (by rw [bl_length]; dsimp only; omega) (Nat.le_refl _) (by rw [List.drop_zero, List.take_length]) ?_
    refine Tri.pick 1 rfl ?_
    refine Tri.perm (M := pts r (ringC b most at_ q.length) :: pts b (bl cs) :: row ⟨some ⟨b4, 0, none⟩, k, k⟩ 1 (bl (q.take n.toNat)) :: L) (List.Perm.cons _ (List.Perm.swap _ _ _)) ?_
    refine ringClose h1 h2 h3 h4 h5 h6 ?_
    exact Tri.pick 1 rfl (Tri.ret ⟨rfl, rfl⟩)
  have get : ∀ i, i < k → cs[(at_ + i) % most]? = (q.take n.toNat)[i]? := fun i hi => by
    rw [← h5, h6 i (by omega), List.getElem?_take, if_pos (by omega)]
  have md : ∀ i, i < k → (at_ + i) % most = if at_ + i < most then at_ + i else at_ + i - most := fun i hi => mod2 (by omega)
  by_cases hz : k - m = 0
  · refine Tri.cpy0 (by simp [hn11, hz]) ?_
    refine fin _ ?_ hsl
    apply List.ext_getElem?
    intro i
    rw [splice_get _ _ _ _ (by simp; omega)]
    simp only [Nat.not_lt_zero, if_false, Nat.zero_add, Nat.sub_zero]
    have hl1 : ((cs.drop at_).take m).length = m := by simp; omega
    rw [hl1]
    by_cases hi : i < m
    · rw [if_pos hi, List.getElem?_take, if_pos hi, List.getElem?_drop, ← get i (by omega), md i (by omega), if_pos (by omega)]
    · rw [if_neg hi, List.getElem?_eq_none (by simp; omega), List.getElem?_eq_none (by omega)]
  · have ha11 : x11.a = some ⟨b4, m, none⟩ := by
      rcases h11.ad with h | ⟨_, h⟩
      · rw [h]; simp [addr_add]
      · omega
    refine Tri.cpyB (l := bl cs) ha11 rb.tail.tail (by rw [bl_length]; dsimp only; omega) (bl_one _) (by rw [bl_length, hsl, hn11]; omega) ?_
    have e4 : min most x11.n = k - m := by omega
    simp only [e4, Nat.mul_one]
    rw [bl_take, bl_splice]
    have hl2 : (cs.take (k - m)).length = k - m := by simp; omega
    refine fin _ ?_ (by rw [splice_length (by rw [hsl, hl2]; omega)]; exact hsl)
    apply List.ext_getElem?
    intro i
    rw [splice_get _ _ _ _ (by rw [hsl, hl2]; omega), splice_get _ _ _ _ (by simp; omega)]
    have hl1 : ((cs.drop at_).take m).length = m := by simp; omega
    simp only [Nat.not_lt_zero, if_false, Nat.zero_add, Nat.sub_zero, hl1, hl2]
    by_cases hi : i < m
    · rw [if_pos hi, if_pos hi, List.getElem?_take, if_pos hi, List.getElem?_drop, ← get i (by omega), md i (by omega), if_pos (by omega)]
    · rw [if_neg hi]
      by_cases hi2 : i < k
      · rw [if_pos (by omega), List.getElem?_take, if_pos (by omega), ← get i hi2, md i hi2, if_neg (by omega)]
        congr 1; omega
      · rw [if_neg (by omega), if_neg hi, List.getElem?_eq_none (by simp; omega), List.getElem?_eq_none (by omega)]
theorem ring_Take_spec {r most : Nat} {q : List UInt8} {n : Int} (hn : -9223372036854775808 ≤ n) :
    Tri ρ (ringI r most q :: L) (ring_Ring_Take K (some ⟨r, 0, none⟩) n) (fun s L' => s.n = (q.take n.toNat).length ∧ L' = ringI r most (q.drop n.toNat) :: row s 1 (bl (q.take n.toNat)) :: L) := by
  unfold ring_Ring_Take
  refine Tri.bnd (ring_Peek_spec hn) ?_
  rintro x1 _ ⟨hx1, rfl⟩
  refine Tri.pick 1 rfl (ringOpen fun h1 h2 h3 b at_ cs h4 h5 h6 => ?_)
  generalize hk : (q.take n.toNat).length = k at hx1
  have hk' : k = min n.toNat q.length := by rw [← hk]; simp
  refine Tri.drw (Tri.nn (Tri.ldI (Cell.here (i := 1) rfl) (Tri.nn (Tri.ldSl ⟨some ⟨b, 0, none⟩, most, most⟩ (Cell.here (i := 0) rfl) ?_))))
  refine Tri.chk (by simp; omega) (Tri.nn ?_)
  rw [hx1]
  have e2 : Int.tmod (IntKind.wrap .i64 ((at_ : Int) + (k : Int))) (most : Int) = (((at_ + k) % most : Nat) : Int) := by
    rw [w64 (by omega) (by omega)]
    rw [show (at_ : Int) + (k : Int) = ((at_ + k : Nat) : Int) by omega]
    rfl
  simp only [e2]
  refine Tri.stB (i := 1) (l := [.int .i64 (((at_ + k) % most : Nat) : Int)]) (by rfl) (by simp [ringC]) rfl ?_
  have e3 : splice (ringC b most at_ q.length) 1 [.int .i64 (((at_ + k) % most : Nat) : Int)] = ringC b most ((at_ + k) % most) q.length := rfl
  rw [e3]
  refine Tri.nn (Tri.ldI (Cell.here (i := 2) rfl) (Tri.nn ?_))
  rw [w64 (by omega) (by omega)]
  refine Tri.stB (i := 2) (l := [.int .i64 ((q.length : Int) - (k : Int))]) (by rfl) (by simp [ringC]) rfl ?_
  have hd : (q.drop n.toNat).length = q.length - k := by simp; omega
  have e4 : splice (ringC b most ((at_ + k) % most) q.length) 2 [.int .i64 ((q.length : Int) - (k : Int))] = ringC b most ((at_ + k) % most) (q.drop n.toNat).length := by
    rw [hd, show ((q.length : Int) - (k : Int)) = ((q.length - k : Nat) : Int) by omega]; rfl
  rw [e4]
  refine ringClose (by omega) h2 h3 (Nat.mod_lt _ h2) h5 ?_ (Tri.ret ⟨hx1, rfl⟩)
  intro i hi
  rw [hd] at hi
  have hkn : n.toNat = k := by omega
  rw [List.getElem?_drop, hkn, ← h6 (k + i) (by omega), h5]
  congr 1
  rw [Nat.add_mod, Nat.mod_mod, ← Nat.add_mod, Nat.add_assoc]
end Go.Proofs.YtjdnjlnfcbaokaaGreat

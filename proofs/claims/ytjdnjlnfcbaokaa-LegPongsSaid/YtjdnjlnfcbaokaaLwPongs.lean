/-
  LAW LegPongs, over its spec. Own work.
-/
import Derived.Test.YtjdnjlnfcbaokaaPl3
import Derived.Test.YtjdnjlnfcbaokaaLwCom
import Derived.Test.YtjdnjlnfcbaokaaSp20
set_option linter.unusedVariables false
set_option linter.unusedSimpArgs false
set_option maxRecDepth 20000
namespace Go.Proofs.Ytjdnjlnfcbaokaa
open Go Go.Lg
variable {α β σ τ : Type} {ρ : Hp} {L M : As} {K : Nat}

def dat (l : List ByteArray) : List (List UInt8) := l.map fun s => s.data.toList
theorem dat_get (l : List ByteArray) (j : Nat) (h : j < l.length) : (dat l)[j]? = some (l[j].data.toList) := by simp [dat, List.getElem?_eq_getElem h]
theorem frl_cell (fs : List Fr) (j : Nat) (h : j < fs.length) {s : Sl} {x : Addr} (hn : s.n = fs.length) (hx : Spot ρ s 8 j x) (hr : Rd ρ L s 8 (frl fs)) : Cells ρ L x (frc fs[j]) := hx.cells hr (by omega) (frl_get fs j h) rfl
theorem cellsCell {a : Addr} {l : List Value} (h : Cells ρ L a l) (i : Nat) {v : Value} (hv : l[i]? = some v) : Cell ρ L (a.add i) v := fun w R hR hs => by
  obtain ⟨h1, h2⟩ := rdN_iff.1 (h w R hR hs)
  have hi : i < l.length := (List.getElem?_eq_some_iff.1 hv).1
  have := h2 i hi
  rw [Nat.zero_add] at this
  rw [this, hv]
theorem sublist_step {a : List UInt8} {r l : List (List UInt8)} {j : Nat} (h : (a :: r).Sublist (l.drop j)) : ∃ hj : j < l.length, (l[j] = a → r.Sublist (l.drop (j + 1))) ∧ (l[j] ≠ a → (a :: r).Sublist (l.drop (j + 1))) := by
  have hj : j < l.length := by
    have := h.length_le
    simp at this; omega
  refine ⟨hj, ?_, ?_⟩
  · intro e
    rw [List.drop_eq_getElem_cons hj] at h
    rw [e] at h
    exact List.cons_sublist_cons.1 h
  · intro e
    rw [List.drop_eq_getElem_cons hj] at h
    cases h with
    | cons _ h => exact h
    | cons_cons _ h => exact absurd rfl e
theorem legPongs_spec {s1 s2 : Sl} {l : List ByteArray} {t : List Nat} (hK : KBig K)
    (hr1 : Rd ρ [] s1 1 (strl l)) (hn1 : s1.n = l.length) (hr2 : Rd ρ [] s2 1 (u8l t)) (hn2 : s2.n = t.length) (ht : ∀ n ∈ t, n < 256) : Tri ρ [] (law16_LegPongs K s1 s2) (fun r _ => r = true) := by
  unfold law16_LegPongs
  refine Tri.bnd (config_spec (m := 200) (s := 50) (o := 200) (by omega) (by omega) (by omega)) ?_
  rintro _ _ ⟨b, rfl, rfl⟩
  refine Tri.bnd (new0_spec (draw := 0) (masked := true) hK (by omega) (by omega) (by omega) (by omega)) ?_
  rintro _ _ ⟨a, rfl, rfl⟩
  refine Tri.bnd (awake_spec hK) ?_
  rintro _ _ ⟨rfl, rfl⟩
  have hd0 : ((0 : Int) != 0) = false := rfl
  simp only [Bool.not_true, Bool.false_eq_true, if_false, bnd_ret, hd0, Option.isNone_some]
  rw [hn1]
  by_cases h20 : 20 < l.length
  · have hd : decide ((20 : Int) < (l.length : Int)) = true := by simp; omega
    rw [hd]
    simp only [if_true]
    refine Tri.bnd (awake_spec hK) ?_
    rintro _ _ ⟨rfl, rfl⟩
    exact Tri.ret rfl
  have hd : decide ((20 : Int) < (l.length : Int)) = false := by simp; omega
  rw [hd]
  simp only [Bool.false_eq_true, if_false]
  refine Tri.lt (Tri.lt ?_)
  generalize cfg0 b 200 50 200 = c
  have ne1 : ∀ j, j < l.length → strl l ≠ [] := fun j hj e => by have e9 := congrArg List.length e; rw [strl_length, List.length_nil] at e9; omega
  have hr1' : ∀ {A B : Assn}, Rd ρ [A, B] s1 1 (strl l) := hr1.tail.tail
  have hr2' : ∀ {A B : Assn}, Rd ρ [A, B] s2 1 (u8l t) := hr2.tail.tail
  refine Tri.bndS (D := fun r L' => ∃ (s : List UInt8) (gs : List Fr) (x : Lm), r.1 = ba s ∧ s.length ≤ 6000 ∧ r.2 = (l.getLast?.getD (ByteArray.mk #[])) ∧ PongI (dat l) s gs x ∧ L' = legI a c x :: [pts b rtC]) ?_ ?_
  · refine Tri.loop (μ := fun (i : ByteArray × ByteArray × Int) => l.length - i.2.2.toNat) (I := fun (i : ByteArray × ByteArray × Int) L' => ∃ (j : Nat) (s : List UInt8) (gs : List Fr) (x : Lm), i.2.2 = j ∧ j ≤ l.length ∧ i.1 = ba s ∧ s.length ≤ j * 300 ∧ i.2.1 = ((l.take j).getLast?.getD (ByteArray.mk #[])) ∧ PongI (dat (l.take j)) s gs x ∧ L' = legI a c x :: [pts b rtC]) ?_ (by unfold KBig at hK; simp; omega)
      ⟨0, [], [], _, rfl, by omega, rfl, by simp, by simp, pong_new, rfl⟩
    rintro again ⟨i1, i2, i3⟩ L' ⟨j, s, gs, x, h3, hj, h1, hsl, h2, hI, rfl⟩ ih
    dsimp only at h3 h1 h2
    subst h3; subst h1; subst h2
    unfold law16_LegPongs_l0
    dsimp only
    rw [hn1]
    refine Tri.ite ?_ ?_
    · intro hc
      have c1 : j < l.length := by simp at hc; omega
      have cS : ∀ {A B : Assn} {y : Addr}, Spot ρ s1 1 j y → Cell ρ [A, B] y (.string l[j]) := fun hy => hy.cell hr1' (strl_get l j c1) (by omega)
      refine Tri.ixA j hr1' rfl (by omega) (ne1 j c1) fun x104 h104 => ?_
      refine Tri.ldS (cS h104) ?_
      by_cases h125 : 125 < l[j].size
      · have hd : decide ((125 : Int) < (l[j].size : Int)) = true := by simp; omega
        rw [hd]
        simp only [if_true]
        exact Tri.inr (Tri.ret rfl)
      have hd : decide ((125 : Int) < (l[j].size : Int)) = false := by simp; omega
      rw [hd]
      simp only [Bool.false_eq_true, if_false]
      refine Tri.drw (Tri.ixA j hr1' rfl (by omega) (ne1 j c1) fun x106 h106 => Tri.ldS (cS h106) (Tri.ixA j hr1' rfl (by omega) (ne1 j c1) fun x108 h108 => ?_))
      refine Tri.wld1 (cS h108) fun w110 hw110 => Tri.ldS (cS h108) ?_
      have hcl : l[j].data.toList.length = l[j].size := by simp
      have eb : IntKind.wrap .u8 (IntKind.wrap .i64 ((128 : Int) + (l[j].size : Int))) = ((UInt8.ofNat (128 + l[j].size)).toNat : Int) := by
        rw [w64 (by omega) (by omega), wrU8, UInt8.toNat_ofNat']; omega
      rw [eb]
      refine Tri.new fun x111 => ?_
      refine Tri.agr1 hw110 ((cS h108).tail) ?_
      refine Tri.strOf (t := ba [UInt8.ofNat (128 + l[j].size)]) (by rw [bytes_ba]; exact Rd.lit (l := [UInt8.ofNat (128 + l[j].size)])) (Tri.drop ?_)
      have e137 : ByteArray.mk #[137] = ba [137] := rfl
      have e0000 : ByteArray.mk #[0, 0, 0, 0] = ba [0, 0, 0, 0] := rfl
      have eall : ((ba [137] ++ ba [UInt8.ofNat (128 + l[j].size)]) ++ ba [0, 0, 0, 0]) ++ l[j] = ba (frPut (pingF l[j].data.toList)) := by
        rw [pingF_put (by omega), hcl]
        conv => lhs; rw [← ba_data l[j]]
        rw [ba_append, ba_append, ba_append]; rfl
      rw [e137, e0000, eall]
      refine Tri.chk (by simp [ba_size]) (Tri.chk (by rw [ba_append]; simp [ba_size]) (Tri.chk (by rw [ba_append, ba_append]; simp [ba_size]; omega) ?_))
      refine Tri.bytesOf fun s' hs' _ => ?_
      rw [bytes_ba]
      rw [ba_size] at hs'
      have hfl : (frPut (pingF l[j].data.toList)).length ≤ 200 := by rw [pingF_put (by omega)]; simp; omega
      refine Tri.pick 1 rfl (Tri.bnd (legFeedS (b := frPut (pingF l[j].data.toList)) hK hI.fit Rd.row hs' (by omega)) ?_)
      rintro x117 _ ⟨h117, rfl⟩
      rw [ping_feed hI (by omega)] at h117 ⊢
      have hd : ((x117.n : Int) != 0) = false := by rw [h117]; rfl
      rw [hd]
      simp only [Bool.false_eq_true, if_false]
      refine Tri.drop (Tri.pick 1 rfl (Tri.drop ?_))
      refine Tri.ixA j hr1' rfl (by omega) (ne1 j c1) fun x118 h118 => Tri.ldS (cS h118) ?_
      have etk : l.take (j + 1) = l.take j ++ [l[j]] := by rw [List.take_add_one, List.getElem?_eq_getElem c1]; rfl
      have edat : dat (l.take (j + 1)) = dat (l.take j) ++ [l[j].data.toList] := by unfold dat; rw [etk, List.map_append]; rfl
      have elast : (l.take (j + 1)).getLast?.getD (ByteArray.mk #[]) = l[j] := by rw [etk, List.getLast?_append]; rfl
      obtain ⟨hs1, hJ⟩ := ping_step hI (d := l[j].data.toList) (by omega)
      rw [← edat] at hJ
      generalize x.pong l[j].data.toList = y at hJ ⊢
      have hw1 : IntKind.wrap .i64 ((j : Int) + 1) = ((j + 1 : Nat) : Int) := by rw [w64 (by omega) (by omega)]; omega
      refine Tri.bnd (B := fun r L' => ∃ (s2 : List UInt8) (gs2 : List Fr) (z : Lm), r = ba s2 ∧ s2.length ≤ (j + 1) * 300 ∧ PongI (dat (l.take (j + 1))) s2 gs2 z ∧ L' = legI a c z :: [pts b rtC]) ?_ ?_
      · rw [hn2]
        refine Tri.ite ?_ ?_
        · intro hc2
          have c2 : j < t.length := by simp at hc2; omega
          refine Tri.ixA j hr2' rfl (by omega) (by intro e; have e9 := congrArg List.length e; rw [u8l_length, List.length_nil] at e9; omega) fun x126 h126 => ?_
          refine Tri.ldI (h126.cell hr2' (u8l_get t j c2) (by omega)) ?_
          have htj := ht t[j] (List.getElem_mem c2)
          rw [w64 (by omega) (by omega)]
          refine Tri.bnd (legTakeS hK hJ.fit (by omega)) ?_
          rintro x128 _ ⟨h128, rfl⟩
          refine Tri.strOf (t := ba (y.peek (t[j] : Int))) (by rw [bytes_ba]; exact Rd.row) (Tri.drop ?_)
          have hpl : (y.peek (t[j] : Int)).length ≤ 255 := by unfold Lm.peek; simp; omega
          obtain ⟨hs2, hZ⟩ := pong_out hJ (t[j] : Int)
          refine Tri.chk (by rw [ba_size, ba_size]; omega) (Tri.lt (Tri.ret ⟨_, _, _, ?_, ?_, hZ, rfl⟩))
          · rw [ba_append]
          · simp; omega
        · intro _
          exact Tri.ret ⟨s, _, y, rfl, by omega, hJ, rfl⟩
      · rintro _ _ ⟨s2, gs2, z, rfl, hs2, hZ, rfl⟩
        refine Tri.lt ?_
        rw [hw1]
        exact ih _ _ ⟨j + 1, s2, gs2, z, rfl, by omega, rfl, hs2, elast.symm, hZ, rfl⟩ (by simp; omega)
    · intro hc
      have c1 : j = l.length := by simp at hc; omega
      rw [c1, List.take_length] at hI
      refine Tri.ret ⟨s, gs, x, rfl, by omega, ?_, hI, rfl⟩
      rw [c1, List.take_length]
  rintro ⟨r1, r2⟩ _ ⟨s, gs, x, h1, hsl, h2, hI, rfl⟩
  dsimp only at h1 h2 ⊢
  subst h1; subst h2
  -- all that is left goes out
  refine Tri.bnd (B := fun r L' => ∃ (s2 : List UInt8) (gs2 : List Fr) (z : Lm), r = ba s2 ∧ s2.length ≤ 60000 ∧ PongI (dat l) s2 gs2 z ∧ z.quiet = true ∧ L' = legI a c z :: [pts b rtC]) ?_ ?_
  · refine Tri.loop (μ := fun (i : ByteArray × Int) => 1001 - i.2.toNat) (I := fun (i : ByteArray × Int) L' => ∃ (j : Nat) (s2 : List UInt8) (gs2 : List Fr) (z : Lm), i.2 = j ∧ j ≤ 1000 ∧ i.1 = ba s2 ∧ s2.length ≤ 6000 + j * 50 ∧ PongI (dat l) s2 gs2 z ∧ z.pend + j ≤ 1000 ∧ L' = legI a c z :: [pts b rtC]) ?_ (by unfold KBig at hK; simp; omega)
      ⟨0, s, gs, x, rfl, by omega, rfl, by omega, hI, by have := pong_pend hI; omega, rfl⟩
    rintro again ⟨i1, i2⟩ L' ⟨j, s2, gs2, z, h2, hj, h1, hs2, hZ, hp, rfl⟩ ih
    dsimp only at h2 h1
    subst h2; subst h1
    unfold law16_LegPongs_l1
    dsimp only
    have hw1 : IntKind.wrap .i64 ((j : Int) + 1) = ((j + 1 : Nat) : Int) := by rw [w64 (by omega) (by omega)]; omega
    have ho : 0 < z.out := by rw [hZ.out]; omega
    by_cases c1 : j < 1000
    · have hd : decide ((j : Int) < 1000) = true := by simp; omega
      rw [hd]
      simp only [if_true, bnd_ret, bnd_bnd, bnd_ite, bnd_lt, bnd_ldB, bnd_ldI, bnd_ldS, bnd_ldP, bnd_ldSl, bnd_ldG, bnd_nn, bnd_ixA, bnd_st, bnd_drw, bnd_strOf, bnd_new, bnd_slS, bnd_slA, bnd_slStr, bnd_app, bnd_appS, bnd_appT, bnd_appZ, bnd_chk, bnd_mk, bnd_cpy, bnd_wld, bnd_agr, bnd_bytesOf, bnd_drw2, bnd_mrk, bnd_fail, sumK_inl, sumK_inr, bnd_inr]
      refine Tri.bnd legQuietS ?_
      rintro _ _ ⟨rfl, rfl⟩
      cases hq : z.quiet with
      | true =>
        simp only [Bool.not_true, Bool.false_eq_true, if_false]
        exact Tri.ret ⟨s2, gs2, z, rfl, by omega, hZ, hq, rfl⟩
      | false =>
        simp only [Bool.not_false, if_true]
        refine Tri.bnd (legTakeS hK hZ.fit (by omega)) ?_
        rintro x162 _ ⟨h162, rfl⟩
        refine Tri.strOf (t := ba (z.peek 50)) (by rw [bytes_ba]; exact Rd.row) (Tri.drop ?_)
        have hpl : (z.peek 50).length ≤ 50 := by unfold Lm.peek; simp; omega
        obtain ⟨hs3, hY⟩ := pong_out hZ 50
        have hpo := pend_out hZ.ok 50
        have hp1 : 1 ≤ (z.peek 50).length ∧ (z.peek 50).length ≤ z.pend := by
          rw [hZ.still.quiet ho] at hq
          have h2 : z.ring ≠ [] := fun e => by rw [e] at hq; simp at hq
          have h3 : 0 < z.ring.length := List.length_pos_iff.2 h2
          unfold Lm.peek Lm.pend; simp; omega
        refine Tri.chk (by rw [ba_size, ba_size]; omega) (Tri.lt (Tri.lt ?_))
        rw [hw1]
        refine ih _ _ ⟨j + 1, s2 ++ z.peek 50, _, _, rfl, by omega, ?_, by simp; omega, hY, by omega, rfl⟩ (by simp; omega)
        rw [ba_append]
    · have hd : decide ((j : Int) < 1000) = false := by simp; omega
      rw [hd]
      simp only [Bool.false_eq_true, if_false, bnd_ret, bnd_bnd, bnd_ite, bnd_lt, bnd_ldB, bnd_ldI, bnd_ldS, bnd_ldP, bnd_ldSl, bnd_ldG, bnd_nn, bnd_ixA, bnd_st, bnd_drw, bnd_strOf, bnd_new, bnd_slS, bnd_slA, bnd_slStr, bnd_app, bnd_appS, bnd_appT, bnd_appZ, bnd_chk, bnd_mk, bnd_cpy, bnd_wld, bnd_agr, bnd_bytesOf, bnd_drw2, bnd_mrk, bnd_fail, sumK_inl, sumK_inr, bnd_inr]
      refine Tri.ret ⟨s2, gs2, z, rfl, by omega, hZ, ?_, rfl⟩
      rw [hZ.still.quiet ho]
      have : z.ring.length = 0 := by unfold Lm.pend at hp; omega
      rw [List.length_eq_zero_iff.1 this]; rfl
  rintro _ _ ⟨s2, gs2, z, rfl, hs2, hZ, hq, rfl⟩
  obtain ⟨hs, hsub, hlast⟩ := pong_done hZ hq
  have hparse : parse false 200 s2 = (gs2, [], 0) := by
    have h1 := parse_put (masked := false) (most := 200) (by omega) gs2 [] (fun g hg => ⟨(hZ.outs g hg).1.form, by have := (hZ.outs g hg).2.2; omega, (hZ.outs g hg).1.masked⟩)
    rw [parse_nil, List.append_nil, ← hs] at h1
    simpa using h1
  have h10 : ∀ g ∈ gs2, g.op = 10 := fun g hg => (hZ.outs g hg).2.1
  refine Tri.bnd (ref10_All_spec (masked := false) (most := 200) hK (by omega) (by omega)) ?_
  rintro ⟨x168, xe, xl⟩ _ ⟨g1, g2, g3, rfl⟩
  rw [hparse] at g1 g2 g3 ⊢
  dsimp only at g1 g2 g3 ⊢
  subst g2; subst g3
  have hdl : (dat l).length = l.length := by simp [dat]
  have hgl : gs2.length ≤ l.length := by have := hsub.length_le; simpa [dat] using this
  have z0 : ((((0 : Nat) : Int)) != 0) = false := rfl
  have z1 : (((([] : List UInt8).length : Nat) : Int) != 0) = false := rfl
  have d1 : decide ((l.length : Int) < (x168.n : Int)) = false := by rw [g1]; simp; omega
  have d2 : (((x168.n : Int) == 0) == ((l.length : Int) == 0)) = true := by
    rw [g1, beqN, beqN]
    have : gs2.length = 0 ↔ l.length = 0 := by
      constructor
      · intro e
        have e1 := List.length_eq_zero_iff.1 e
        rw [e1] at hlast
        simp only [List.map_nil, List.getLast?_nil] at hlast
        have := List.getLast?_eq_none_iff.1 hlast.symm
        rw [← hdl, this]; rfl
      · intro e; omega
    by_cases h : gs2.length = 0
    · rw [decide_eq_true h, decide_eq_true (this.1 h)]; rfl
    · rw [decide_eq_false h, decide_eq_false (fun q => h (this.2 q))]; rfl
  simp only [z0, z1, d1, d2, Bool.not_true, Bool.false_eq_true, if_false, bnd_ret]
  have hrF : Rd ρ [row x168 8 (frl gs2), legI a c z, pts b rtC] x168 8 (frl gs2) := Rd.row
  have hrS : Rd ρ [row x168 8 (frl gs2), legI a c z, pts b rtC] s1 1 (strl l) := hr1.tail.tail.tail
  have neF : ∀ j, j < gs2.length → frl gs2 ≠ [] := fun j hj e => by have e9 := congrArg List.length e; rw [frl_length, List.length_nil] at e9; omega
  refine Tri.bndS (D := fun _ L' => L' = [row x168 8 (frl gs2), legI a c z, pts b rtC]) ?_ ?_
  · refine Tri.loop (μ := fun (i : Int × Int) => gs2.length - i.2.toNat) (I := fun (i : Int × Int) L' => ∃ (j k : Nat), i.2 = j ∧ j ≤ gs2.length ∧ i.1 = k ∧ k ≤ l.length ∧ ((gs2.drop j).map Fr.data).Sublist ((dat l).drop k) ∧ L' = [row x168 8 (frl gs2), legI a c z, pts b rtC]) ?_ (by unfold KBig at hK; simp; omega)
      ⟨0, 0, rfl, by omega, rfl, by omega, by simpa using hsub, rfl⟩
    rintro again ⟨i1, i2⟩ L' ⟨j, k, h2, hj, h1, hk, hS, rfl⟩ ih
    dsimp only at h2 h1
    subst h2; subst h1
    unfold law16_LegPongs_l3
    dsimp only
    rw [g1]
    refine Tri.ite ?_ ?_
    · intro hc
      have c1 : j < gs2.length := by simp at hc; omega
      rw [List.drop_eq_getElem_cons c1, List.map_cons] at hS
      refine Tri.bndS (D := fun r L' => ∃ k' : Nat, r = (k' : Int) ∧ k' ≤ l.length ∧ ((gs2.drop (j + 1)).map Fr.data).Sublist ((dat l).drop k') ∧ L' = [row x168 8 (frl gs2), legI a c z, pts b rtC]) ?_ ?_
      · refine Tri.bnd (B := fun r L' => ∃ k' : Nat, r = (k' : Int) ∧ k' < l.length ∧ ((gs2.drop (j + 1)).map Fr.data).Sublist ((dat l).drop (k' + 1)) ∧ L' = [row x168 8 (frl gs2), legI a c z, pts b rtC]) ?_ ?_
        · refine Tri.loop (μ := fun (i : Int) => l.length - i.toNat) (I := fun (i : Int) L' => ∃ k' : Nat, i = (k' : Int) ∧ k' ≤ l.length ∧ (gs2[j].data :: (gs2.drop (j + 1)).map Fr.data).Sublist ((dat l).drop k') ∧ L' = [row x168 8 (frl gs2), legI a c z, pts b rtC]) ?_ (by unfold KBig at hK; simp; omega) ⟨k, rfl, hk, hS, rfl⟩
          rintro again2 _ L' ⟨k', rfl, hk', hS', rfl⟩ ih2
          unfold law16_LegPongs_l2
          dsimp only
          rw [hn1]
          obtain ⟨c2, n1, n2⟩ := sublist_step hS'
          rw [hdl] at c2
          have hdk : (dat l)[k']'(by rw [hdl]; exact c2) = l[k'].data.toList := by simp [dat]
          rw [hdk] at n1 n2
          refine Tri.val (decide (l[k'].data.toList ≠ gs2[j].data)) ?_ ?_
          · refine Tri.drw ?_
            have hd : decide ((k' : Int) < (l.length : Int)) = true := by simp; omega
            rw [hd]
            simp only [if_true]
            refine Tri.ixA k' hrS rfl (by omega) (ne1 k' c2) fun x563 h563 => Tri.ldS (h563.cell hrS (strl_get l k' c2) (by omega)) ?_
            refine Tri.ixA j hrF rfl (by omega) (neF j c1) fun x565 h565 => ?_
            refine Tri.ldS (v := ba gs2[j].data) (cellsCell (frl_cell gs2 j c1 g1 h565 hrF) 7 rfl) (Tri.ret ⟨?_, rfl⟩)
            conv => lhs; rw [← ba_data l[k']]
            rw [sEq_ba, Bool.eq_iff_iff]; simp
          by_cases he : l[k'].data.toList = gs2[j].data
          · rw [decide_eq_false (by simpa using he)]
            simp only [Bool.false_eq_true, if_false]
            exact Tri.ret ⟨k', rfl, c2, n1 he, rfl⟩
          · rw [decide_eq_true he]
            simp only [if_true]
            have hw1 : IntKind.wrap .i64 ((k' : Int) + 1) = ((k' + 1 : Nat) : Int) := by rw [w64 (by omega) (by omega)]; omega
            refine Tri.lt ?_
            rw [hw1]
            exact ih2 _ _ ⟨k' + 1, rfl, by omega, n2 he, rfl⟩ (by simp; omega)
        · rintro _ _ ⟨k', rfl, hk', hS', rfl⟩
          refine Tri.ixA j hrF rfl (by omega) (neF j c1) fun x570 h570 => ?_
          refine Tri.ldI (v := (gs2[j].op : Int)) (cellsCell (frl_cell gs2 j c1 g1 h570 hrF) 1 rfl) ?_
          rw [h10 _ (List.getElem_mem c1)]
          have e10 : ((((10 : Nat) : Int)) != 10) = false := rfl
          rw [e10, hn1]
          simp only [Bool.false_eq_true, if_false, bnd_ret]
          have e11 : ((k' : Int) == (l.length : Int)) = false := by simp; omega
          rw [e11]
          simp only [Bool.false_eq_true, if_false]
          have hw1 : IntKind.wrap .i64 ((k' : Int) + 1) = ((k' + 1 : Nat) : Int) := by rw [w64 (by omega) (by omega)]; omega
          refine Tri.lt ?_
          rw [hw1]
          exact Tri.ret ⟨k' + 1, rfl, by omega, hS', rfl⟩
      · rintro _ _ ⟨k', rfl, hk', hS', rfl⟩
        have hw1 : IntKind.wrap .i64 ((j : Int) + 1) = ((j + 1 : Nat) : Int) := by rw [w64 (by omega) (by omega)]; omega
        refine Tri.lt ?_
        rw [hw1]
        exact ih _ _ ⟨j + 1, k', rfl, by omega, rfl, hk', hS', rfl⟩ (by simp; omega)
    · intro _
      exact Tri.ret rfl
  · rintro _ _ rfl
    rw [g1, beqN]
    by_cases h0 : gs2.length = 0
    · rw [decide_eq_true h0]
      simp only [if_true, bnd_ret]
      exact Tri.ret rfl
    · rw [decide_eq_false h0]
      simp only [Bool.false_eq_true, if_false, bnd_ret, bnd_bnd, bnd_ite, bnd_lt, bnd_ldB, bnd_ldI, bnd_ldS, bnd_ldP, bnd_ldSl, bnd_ldG, bnd_nn, bnd_ixA, bnd_st, bnd_drw, bnd_strOf, bnd_new, bnd_slS, bnd_slA, bnd_slStr, bnd_app, bnd_appS, bnd_appT, bnd_appZ, bnd_chk, bnd_mk, bnd_cpy, bnd_wld, bnd_agr, bnd_bytesOf, bnd_drw2, bnd_mrk, bnd_fail, sumK_inl, sumK_inr, bnd_inr]
      have hw1 : IntKind.wrap .i64 ((gs2.length : Int) - 1) = ((gs2.length - 1 : Nat) : Int) := by rw [w64 (by omega) (by omega)]; omega
      rw [hw1]
      have c1 : gs2.length - 1 < gs2.length := by omega
      refine Tri.ixA (gs2.length - 1) hrF rfl (by omega) (neF _ c1) fun x578 h578 => ?_
      refine Tri.ldS (v := ba gs2[gs2.length - 1].data) (cellsCell (frl_cell gs2 _ c1 g1 h578 hrF) 7 rfl) (Tri.ret ?_)
      have e1 : (gs2.map Fr.data).getLast? = some gs2[gs2.length - 1].data := by rw [List.getLast?_eq_getElem?]; simp [List.getElem?_eq_getElem c1]
      rw [e1] at hlast
      have e2 : l.getLast? = some (l[l.length - 1]'(by omega)) := by rw [List.getLast?_eq_getElem?, List.getElem?_eq_getElem (by omega)]
      have e3 : (dat l).getLast? = some ((l[l.length - 1]'(by omega)).data.toList) := by rw [List.getLast?_eq_getElem?, hdl, dat_get l _ (by omega)]
      rw [e3] at hlast
      simp only [Option.some.injEq] at hlast
      rw [e2, hlast, ba_data]
      simp [sEq]
theorem legPongs_walk {W : World} {a0 : Option Addr} {len0 cap0 : Nat} {l0 : List ByteArray} (hl0 : len0 = l0.length) (hc0 : len0 ≤ maxLen) (ho0 : ∀ s ∈ l0, s.size ≤ maxLen) (hr0 : rdSl W ⟨a0, len0, cap0⟩ 1 = some (l0.flatMap strC))
    {a1 : Option Addr} {len1 cap1 : Nat} {l1 : List Int} (hl1 : len1 = l1.length) (hc1 : len1 ≤ maxLen) (ho1 : ∀ x ∈ l1, (Lit.int .u8 x).wf = true) (hr1 : rdSl W ⟨a1, len1, cap1⟩ 1 = some (l1.flatMap fun n : Int => [.int .u8 n])) :
    Calls Try.prog 6 #[.slice a0 len0 cap0, .slice a1 len1 cap1] W fun e w' => e = .returned (.bool true) ∧ RowKit.Below W.heap.size W w' := by
  obtain ⟨t, rfl, ht⟩ := u8s ho1
  rw [u8l_flat] at hr1
  obtain ⟨K, hK⟩ : ∃ K, KBig K := ⟨_, Nat.le_refl _⟩
  exact (law16_LegPongs_ref K ⟨a0, len0, cap0⟩ ⟨a1, len1, cap1⟩).call (legPongs_spec hK (Rd.old hr0) hl0 (Rd.old hr1) (by simpa using hl1) ht)
end Go.Proofs.Ytjdnjlnfcbaokaa

/-
  SPECS, 20: the document's frames: Get, One, All (layers 9, 10). Own work.
-/
import Derived.Test.YtjdnjlnfcbaokaaSp19
import Derived.Test.YtjdnjlnfcbaokaaPl0
set_option linter.unusedVariables false
set_option linter.unusedSimpArgs false
set_option maxRecDepth 20000
namespace Go.Proofs.Ytjdnjlnfcbaokaa
open Go Go.Lg
variable {α β σ τ : Type} {ρ : Hp} {L M : As} {K : Nat}

theorem ref09_Control_eq (op : Nat) : ref09_Control K (op : Int) = ret (ctlOp op) := by
  unfold ref09_Control
  have e : ctlOp op = decide (8 ≤ op ∧ op ≤ 10) := by
    rw [Bool.eq_iff_iff]; simp only [ctlOp, Bool.or_eq_true, beq_iff_eq, decide_eq_true_eq]; omega
  by_cases h : 8 ≤ op
  · have hd : decide ((8 : Int) ≤ (op : Int)) = true := by simp; omega
    rw [hd, e]
    simp only [if_true, bnd_ret]
    congr 1; rw [Bool.eq_iff_iff]; simp only [decide_eq_true_eq]; omega
  · have hd : decide ((8 : Int) ≤ (op : Int)) = false := by simp; omega
    rw [hd, e]
    simp only [Bool.false_eq_true, if_false, bnd_ret]
    congr 1; rw [eq_comm, decide_eq_false]; omega
theorem bt_ix (l : List UInt8) (i : Nat) (h : i < l.length) : bt (ba l) (i : Int) = (l[i].toNat : Int) := by
  rw [bt_ba l i h]; simp [List.getD_eq_getElem?_getD, List.getElem?_eq_getElem h]
theorem known_not (op : Nat) : (!knownOp op) = (decide (2 < op) && !ctlOp op) := by
  rw [Bool.eq_iff_iff]
  simp only [knownOp, ctlOp, Bool.not_eq_true', Bool.or_eq_false_iff, beq_eq_false_iff_ne, Bool.and_eq_true, decide_eq_true_eq]
  omega
theorem ref09_Get_spec {l : List UInt8} {most : Nat} (hK : KBig K) (hb : l.length ≤ 281474976710656) (hm : most < 4611686018427387904) :
    Tri ρ L (ref09_Get K (ba l) most) (fun r L' => r = ((frGet l most).1.t, ((frGet l most).2.1 : Int), ((frGet l most).2.2 : Int)) ∧ L' = L) := by
  unfold ref09_Get
  rw [ba_size, ba_nil, sEq_ba]
  rw [← ba_nil, frc_zero]
  have nt : Tapi_Frame.mk false (0 : Int) false (0 : Int) (0 : Int) (0 : Int) (0 : Int) (ByteArray.mk #[]) = Fr.none.t := rfl
  rw [nt]
  refine Tri.new fun x1 => ?_
  cases l with
  | nil => exact retFr rfl (frc_len _) ⟨rfl, rfl⟩
  | cons b0 r =>
    have hd : ((b0 :: r) == ([] : List UInt8)) = false := rfl
    rw [hd]
    simp only [Bool.false_eq_true, if_false]
    have h0 := u8lt b0
    have bt0 : bt (ba (b0 :: r)) 0 = (b0.toNat : Int) := bt_ix (b0 :: r) 0 (by simp)
    rw [bt0]
    have e1 : IntKind.wrap .i64 (b0.toNat : Int) = (b0.toNat : Int) := w64 (by omega) (by omega)
    rw [e1]
    have e2 : Int.tmod (b0.toNat : Int) 16 = ((b0.toNat % 16 : Nat) : Int) := rfl
    have e3 : Int.tdiv (b0.toNat : Int) 16 = ((b0.toNat / 16 : Nat) : Int) := rfl
    rw [e2, e3, w64 (x := ((b0.toNat / 16 : Nat) : Int)) (by omega) (by omega)]
    have e4 : Int.tmod ((b0.toNat / 16 : Nat) : Int) 8 = ((b0.toNat / 16 % 8 : Nat) : Int) := rfl
    rw [e4, bneN]
    have e5 : decide ((128 : Int) ≤ (b0.toNat : Int)) = decide (128 ≤ b0.toNat) := by rw [Bool.eq_iff_iff]; simp only [decide_eq_true_eq]; omega
    rw [e5]
    refine Tri.drw (Tri.chk (by simp) (Tri.chk (by simp) (Tri.new fun x5 => ?_)))
    have hok : ∀ f : Fr, f = ⟨decide (128 ≤ b0.toNat), b0.toNat % 16, false, Key.zero, []⟩ → Agg.cells (Tapi_Frame.mk (decide (128 ≤ b0.toNat)) ((b0.toNat % 16 : Nat) : Int) false (0 : Int) (0 : Int) (0 : Int) (0 : Int) (ByteArray.mk #[])) = frc f := by rintro f rfl; rfl
    rw [hok _ rfl]
    refine Tri.stB (l := frc ⟨decide (128 ≤ b0.toNat), b0.toNat % 16, false, Key.zero, []⟩) (by rfl) (by simp [frc]) rfl ?_
    have es : splice (frc Fr.none) 0 (frc ⟨decide (128 ≤ b0.toNat), b0.toNat % 16, false, Key.zero, []⟩) = frc ⟨decide (128 ≤ b0.toNat), b0.toNat % 16, false, Key.zero, []⟩ := rfl
    rw [es]
    refine Tri.chk (by simp) ?_
    rw [frGet_cons]
    generalize hop : b0.toNat % 16 = op
    generalize hfin : decide (128 ≤ b0.toNat) = fin
    generalize hbits : decide (b0.toNat / 16 % 8 ≠ 0) = bits
    have hbad : ∀ h, frBad b0 h = ((bits || !knownOp op) || (ctlOp op && !fin) || (ctlOp op && decide (125 < h.toNat % 128))) := by
      intro h
      unfold frBad
      rw [hop, hfin]
      have : (b0.toNat / 16 % 8 != 0) = bits := by rw [← hbits, Bool.eq_iff_iff]; simp
      rw [this]
    have cOp : ∀ {L' : As}, Cell ρ (pts x5 (frc ⟨fin, op, false, Key.zero, []⟩) :: L') ⟨x5, 1, none⟩ (.int .i64 (op : Int)) := Cell.here (i := 1) rfl
    refine Tri.val (bits || !knownOp op) ?_ ?_
    · cases bits with
      | true => simp only [if_true]; exact Tri.ret ⟨by simp, rfl⟩
      | false =>
        simp only [Bool.false_eq_true, if_false, Bool.false_or]
        refine Tri.ldI cOp ?_
        rw [known_not]
        have hd : decide ((2 : Int) < (op : Int)) = decide (2 < op) := by rw [Bool.eq_iff_iff]; simp only [decide_eq_true_eq]; omega
        rw [hd]
        cases decide (2 < op) with
        | true =>
          simp only [if_true, bnd_ret, bnd_bnd, bnd_ite, bnd_lt, bnd_ldB, bnd_ldI, bnd_ldS, bnd_ldP, bnd_ldSl, bnd_ldG, bnd_nn, bnd_ixA, bnd_st, bnd_drw, bnd_strOf, bnd_new, bnd_slS, bnd_slA, bnd_slStr, bnd_app, bnd_appS, bnd_appT, bnd_appZ, bnd_chk, bnd_mk, bnd_cpy, bnd_wld, bnd_agr, bnd_bytesOf, bnd_drw2, bnd_mrk, bnd_fail, sumK_inl, sumK_inr, bnd_inr]
          refine Tri.ldI cOp ?_
          rw [ref09_Control_eq]
          exact Tri.ret ⟨by simp, rfl⟩
        | false => simp only [Bool.false_eq_true, if_false, bnd_ret]; exact Tri.ret ⟨by simp, rfl⟩
    refine Tri.val ((bits || !knownOp op) || (ctlOp op && !fin)) ?_ ?_
    · cases (bits || !knownOp op) with
      | true => simp only [if_true]; exact Tri.ret ⟨by simp, rfl⟩
      | false =>
        simp only [Bool.false_eq_true, if_false]
        refine Tri.ldI cOp ?_
        rw [ref09_Control_eq, bnd_ret]
        cases ctlOp op with
        | true =>
          simp only [if_true, bnd_ret, bnd_bnd, bnd_ite, bnd_lt, bnd_ldB, bnd_ldI, bnd_ldS, bnd_ldP, bnd_ldSl, bnd_ldG, bnd_nn, bnd_ixA, bnd_st, bnd_drw, bnd_strOf, bnd_new, bnd_slS, bnd_slA, bnd_slStr, bnd_app, bnd_appS, bnd_appT, bnd_appZ, bnd_chk, bnd_mk, bnd_cpy, bnd_wld, bnd_agr, bnd_bytesOf, bnd_drw2, bnd_mrk, bnd_fail, sumK_inl, sumK_inr, bnd_inr]
          exact Tri.ldB (Cell.here (i := 0) rfl) (Tri.ret ⟨by simp, rfl⟩)
        | false => simp only [Bool.false_eq_true, if_false, bnd_ret]; exact Tri.ret ⟨by simp, rfl⟩
    generalize hA : ((bits || !knownOp op) || (ctlOp op && !fin)) = A at hbad ⊢
    have fin91 : ∀ {X : Fr × Nat × Nat} {cs : List Value}, X = (Fr.none, 0, 91) → Tri ρ (pts x5 cs :: pts x1 (frc Fr.none) :: L)
        (st ⟨x1, 0, none⟩ (.agg (Agg.cells Fr.none.t).toArray) <| ldG (α := Tapi_Frame) ⟨x1, 0, none⟩ fun r17 => ret (r17, (0 : Int), (91 : Int))) (fun r L' => r = (X.1.t, (X.2.1 : Int), (X.2.2 : Int)) ∧ L' = L) := by
      rintro X cs rfl
      exact Tri.drop (retFr rfl (frc_len _) ⟨rfl, rfl⟩)
    have fin90 : ∀ {X : Fr × Nat × Nat} {cs : List Value}, X = (Fr.none, 0, 90) → Tri ρ (pts x5 cs :: pts x1 (frc Fr.none) :: L)
        (st ⟨x1, 0, none⟩ (.agg (Agg.cells Fr.none.t).toArray) <| ldG (α := Tapi_Frame) ⟨x1, 0, none⟩ fun r17 => ret (r17, (0 : Int), (90 : Int))) (fun r L' => r = (X.1.t, (X.2.1 : Int), (X.2.2 : Int)) ∧ L' = L) := by
      rintro X cs rfl
      exact Tri.drop (retFr rfl (frc_len _) ⟨rfl, rfl⟩)
    have fin92 : ∀ {X : Fr × Nat × Nat} {cs : List Value}, X = (Fr.none, 0, 92) → Tri ρ (pts x5 cs :: pts x1 (frc Fr.none) :: L)
        (st ⟨x1, 0, none⟩ (.agg (Agg.cells Fr.none.t).toArray) <| ldG (α := Tapi_Frame) ⟨x1, 0, none⟩ fun r17 => ret (r17, (0 : Int), (92 : Int))) (fun r L' => r = (X.1.t, (X.2.1 : Int), (X.2.2 : Int)) ∧ L' = L) := by
      rintro X cs rfl
      exact Tri.drop (retFr rfl (frc_len _) ⟨rfl, rfl⟩)
    cases A with
    | true => simp only [if_true]; exact fin91 (by rw [hbad]; rfl)
    | false =>
      simp only [Bool.false_eq_true, if_false]
      have hl1 : decide ((1 : Int) < (((b0 :: r).length : Nat) : Int)) = !r.isEmpty := by
        cases r with
        | nil => rfl
        | cons c r => simp; omega
      rw [hl1]
      refine Tri.val (!r.isEmpty && ctlOp op) ?_ ?_
      · cases r.isEmpty with
        | true => simp only [Bool.not_true, Bool.false_eq_true, if_false]; exact Tri.ret ⟨rfl, rfl⟩
        | false =>
          simp only [Bool.not_false, if_true]
          refine Tri.ldI cOp ?_
          rw [ref09_Control_eq]
          exact Tri.ret ⟨by simp, rfl⟩
      refine Tri.val (ctlOp op && decide (125 < (r.headD 0).toNat % 128)) ?_ ?_
      · cases r with
        | nil => simp only [List.isEmpty_nil, Bool.not_true, Bool.false_and, Bool.false_eq_true, if_false]; exact Tri.ret ⟨by simp, rfl⟩
        | cons b1 r =>
          simp only [List.isEmpty_cons, Bool.not_false, Bool.true_and, List.headD_cons]
          cases ctlOp op with
          | false => simp only [Bool.false_eq_true, if_false]; exact Tri.ret ⟨rfl, rfl⟩
          | true =>
            simp only [if_true]
            have h1 := u8lt b1
            have bt1 : bt (ba (b0 :: b1 :: r)) 1 = (b1.toNat : Int) := bt_ix (b0 :: b1 :: r) 1 (by simp)
            rw [bt1]
            have e6 : Int.tmod (b1.toNat : Int) 128 = ((b1.toNat % 128 : Nat) : Int) := rfl
            rw [e6]
            have e7 : decide ((125 : Int) < ((b1.toNat % 128 : Nat) : Int)) = decide (125 < b1.toNat % 128) := by rw [Bool.eq_iff_iff]; simp only [decide_eq_true_eq]; omega
            rw [e7]
            exact Tri.chk (by simp; omega) (Tri.ret ⟨rfl, rfl⟩)
      have hbad' := hbad (r.headD 0)
      rw [Bool.false_or] at hbad'
      rw [hbad']
      cases (ctlOp op && decide (125 < (r.headD 0).toNat % 128)) with
      | true => simp only [if_true]; exact fin91 rfl
      | false =>
        simp only [Bool.false_eq_true, if_false, cond_false]
        refine Tri.slStr 1 (b0 :: r).length (by rfl) (by simp [ba_size]) (by simp) (by rw [ba_size]; exact Nat.le_refl _) ?_
        have er : (ba (b0 :: r)).extract 1 (b0 :: r).length = ba r := by rw [ba_extract]; simp
        rw [er]
        refine Tri.bnd (ref08_Get_spec hK (by simp at hb; omega)) ?_
        rintro _ _ ⟨rfl, rfl⟩
        obtain ⟨g1, g2, g3⟩ := getLen_bound r
        generalize getLen r = g at g1 g2 g3 ⊢
        obtain ⟨n, k, e⟩ := g
        dsimp only at g1 g2 g3 ⊢
        unfold frTail
        dsimp only
        rw [hop, hfin]
        have e81 : (((e : Nat) : Int) == 81) = decide (e = 81) := by rw [Bool.eq_iff_iff]; simp only [beq_iff_eq, decide_eq_true_eq]; omega
        rw [e81, bneN]
        by_cases c81 : e = 81
        · rw [decide_eq_true c81, if_pos c81]; simp only [if_true]; exact fin91 rfl
        rw [decide_eq_false c81, if_neg c81]
        simp only [Bool.false_eq_true, if_false]
        by_cases c0 : e ≠ 0
        · rw [decide_eq_true c0, if_pos c0]; simp only [if_true]; exact fin90 rfl
        rw [decide_eq_false c0, if_neg c0]
        simp only [Bool.false_eq_true, if_false]
        have e0 : e = 0 := by omega
        obtain ⟨k1, k2⟩ := g3 e0
        have hneg : decide (((most : Nat) : Int) < 0) = false := by simp
        rw [hneg, wu64 (x := ((most : Nat) : Int)) (by omega) (by omega)]
        simp only [Bool.false_eq_true, if_false, bnd_ret]
        by_cases cm : most < n
        · have hd : decide (((most : Nat) : Int) < (n : Int)) = true := by simp; omega
          rw [hd, if_pos cm]; simp only [if_true]; exact fin92 rfl
        have hd : decide (((most : Nat) : Int) < (n : Int)) = false := by simp; omega
        rw [hd, if_neg cm]
        simp only [Bool.false_eq_true, if_false]
        have hw : IntKind.wrap .i64 ((1 : Int) + (k : Int)) = ((1 + k : Nat) : Int) := by rw [w64 (by omega) (by omega)]; omega
        rw [hw]
        have hlen : (b0 :: r).length = r.length + 1 := rfl
        refine Tri.slStr (1 + k) (b0 :: r).length (by rfl) (by simp [ba_size]) (by omega) (by rw [ba_size]; exact Nat.le_refl _) ?_
        have ex : (ba (b0 :: r)).extract (1 + k) (b0 :: r).length = ba ((b0 :: r).drop (1 + k)) := by rw [ba_extract]; congr 1; rw [List.take_of_length_le]; simp
        rw [ex]
        obtain ⟨b1, r', rfl⟩ : ∃ b1 r', r = b1 :: r' := by
          cases r with
          | nil => simp at k2; omega
          | cons b1 r' => exact ⟨b1, r', rfl⟩
        have h1 := u8lt b1
        have bt1 : bt (ba (b0 :: b1 :: r')) 1 = (b1.toNat : Int) := bt_ix (b0 :: b1 :: r') 1 (by simp)
        rw [bt1]
        have e128 : decide ((128 : Int) ≤ (b1.toNat : Int)) = decide (128 ≤ b1.toNat) := by rw [Bool.eq_iff_iff]; simp only [decide_eq_true_eq]; omega
        rw [e128, List.headD_cons]
        refine Tri.chk (by simp; omega) ?_
        generalize decide (128 ≤ b1.toNat) = mk
        generalize hR : b1 :: r' = R at k2 hlen hb ⊢
        have hRl : (b0 :: R).length = R.length + 1 := rfl
        -- the mask
        refine Tri.bndS (D := fun s L' => ¬ (mk = true ∧ R.length + 1 < 1 + k + 4) ∧ s = ba ((b0 :: R).drop (if mk = true then 1 + k + 4 else 1 + k)) ∧ L' = pts x5 (frc ⟨fin, op, mk, if mk = true then keyAt (b0 :: R) (1 + k) else Key.zero, []⟩) :: pts x1 (frc Fr.none) :: L) ?_ ?_
        · cases mk with
          | false =>
            simp only [Bool.false_eq_true, if_false]
            exact Tri.ret ⟨by simp, rfl, rfl⟩
          | true =>
            simp only [if_true]
            refine Tri.stB (i := 2) (l := [.bool true]) (by rfl) (by simp [frc]) rfl ?_
            have es2 : splice (frc ⟨fin, op, false, Key.zero, []⟩) 2 [.bool true] = frc ⟨fin, op, true, Key.zero, []⟩ := rfl
            rw [es2, ba_size]
            have hdl : ((b0 :: R).drop (1 + k)).length = R.length - k := by rw [List.length_drop]; omega
            rw [hdl]
            by_cases c4 : R.length + 1 < 1 + k + 4
            · have hd : decide (((R.length - k : Nat) : Int) < 4) = true := by simp; omega
              rw [hd]
              simp only [if_true]
              rw [if_pos ⟨trivial, c4⟩]
              exact Tri.drop (Tri.stB (l := frc Fr.none) (by rfl) (by simp [frc]) rfl (Tri.inr (Tri.ldG Fr.none.t rfl (Cells.here (i := 0) (by simp [Fr.cells, frc, splice]) (by rfl)) (Tri.drop (Tri.ret ⟨rfl, rfl⟩)))))
            · have hd : decide (((R.length - k : Nat) : Int) < 4) = false := by simp; omega
              rw [hd]
              simp only [Bool.false_eq_true, if_false]
              refine Tri.drw (Tri.chk (by omega) (Tri.chk (by omega) (Tri.chk (by omega) (Tri.chk (by omega) ?_))))
              have kk : A4u8.mk (bt (ba ((b0 :: R).drop (1 + k))) 0) (bt (ba ((b0 :: R).drop (1 + k))) 1) (bt (ba ((b0 :: R).drop (1 + k))) 2) (bt (ba ((b0 :: R).drop (1 + k))) 3) = (keyAt (b0 :: R) (1 + k)).t := by
                have g : ∀ i : Nat, i < 4 → bt (ba ((b0 :: R).drop (1 + k))) (i : Int) = (((b0 :: R).getD (1 + k + i) 0).toNat : Int) := fun i hi => by
                  rw [bt_ba _ i (by rw [hdl]; omega)]
                  simp only [List.getD_eq_getElem?_getD, List.getElem?_drop]
                have a0 := g 0 (by omega)
                have a1 := g 1 (by omega)
                have a2 := g 2 (by omega)
                have a3 := g 3 (by omega)
                simp only [Nat.add_zero] at a0
                unfold keyAt Key.t
                have z0 : ((0 : Nat) : Int) = 0 := rfl
                have z1 : ((1 : Nat) : Int) = 1 := rfl
                have z2 : ((2 : Nat) : Int) = 2 := rfl
                have z3 : ((3 : Nat) : Int) = 3 := rfl
                rw [z0] at a0
                rw [z1] at a1
                rw [z2] at a2
                rw [z3] at a3
                rw [a0, a1, a2, a3]
              rw [kk, Key.cells]
              refine Tri.stB (i := 3) (l := bl (keyAt (b0 :: R) (1 + k)).l) (by rfl) (by simp [frc, bl, Key.l]) rfl ?_
              have es3 : splice (frc ⟨fin, op, true, Key.zero, []⟩) 3 (bl (keyAt (b0 :: R) (1 + k)).l) = frc ⟨fin, op, true, keyAt (b0 :: R) (1 + k), []⟩ := rfl
              rw [es3]
              refine Tri.slStr 4 (R.length - k) (by rfl) (by simp [ba_size, hdl]) (by omega) (by rw [ba_size, hdl]; exact Nat.le_refl _) ?_
              refine Tri.ret ⟨fun h => c4 h.2, ?_, rfl⟩
              rw [ba_extract, List.drop_drop, List.take_of_length_le (by simp; omega)]
        · rintro _ _ ⟨cn, rfl, rfl⟩
          rw [if_neg cn]
          have hat : (if mk = true then 1 + k + 4 else 1 + k) ≤ R.length + 1 := by
            cases mk with
            | true => simp only [true_and] at cn; simp only [if_true]; omega
            | false => simp only [Bool.false_eq_true, if_false]; omega
          generalize (if mk = true then 1 + k + 4 else 1 + k) = at1 at hat ⊢
          generalize (if mk = true then keyAt (b0 :: R) (1 + k) else Key.zero) = key
          have hdl : ((b0 :: R).drop at1).length = R.length + 1 - at1 := by rw [List.length_drop]; omega
          rw [ba_size, hdl, wu64 (x := ((R.length + 1 - at1 : Nat) : Int)) (by omega) (by omega)]
          by_cases c6 : R.length + 1 < at1 + n
          · have hd : decide (((R.length + 1 - at1 : Nat) : Int) < (n : Int)) = true := by simp; omega
            rw [hd, if_pos c6]
            simp only [if_true]
            exact fin90 rfl
          have hd : decide (((R.length + 1 - at1 : Nat) : Int) < (n : Int)) = false := by simp; omega
          rw [hd, if_neg c6]
          simp only [Bool.false_eq_true, if_false]
          refine Tri.drw (Tri.ldG key.t rfl (Cells.here (i := 3) (by simp [frc, Agg.cells]) rfl) ?_)
          refine Tri.slStr 0 n (by rfl) (by rfl) (by omega) (by rw [ba_size, hdl]; omega) ?_
          have ey : (ba ((b0 :: R).drop at1)).extract 0 n = ba (((b0 :: R).drop at1).take n) := by rw [ba_extract]; simp
          rw [ey]
          refine Tri.bnd (ref08_Apply_spec hK (by simp; omega)) ?_
          rintro _ _ ⟨rfl, rfl⟩
          refine Tri.stB (i := 7) (l := [.string (ba (turn key 0 (((b0 :: R).drop at1).take n)))]) (by rfl) (by simp [frc]) rfl ?_
          have es7 : ∀ d, splice (frc ⟨fin, op, mk, key, []⟩) 7 [.string (ba d)] = frc ⟨fin, op, mk, key, d⟩ := fun d => rfl
          rw [es7]
          generalize turn key 0 (((b0 :: R).drop at1).take n) = dd
          refine Tri.ldG (⟨fin, op, mk, key, dd⟩ : Fr).t rfl (Cells.here (i := 0) (by simp [Fr.cells, frc]) (by rfl)) (Tri.drop ?_)
          refine Tri.stB (l := frc ⟨fin, op, mk, key, dd⟩) (by rfl) (by simp [frc]) rfl (Tri.lt ?_)
          have ef : splice (frc Fr.none) 0 (frc ⟨fin, op, mk, key, dd⟩) = frc ⟨fin, op, mk, key, dd⟩ := rfl
          rw [ef, w64 (x := (n : Int)) (by omega) (by omega), w64 (x := ((((b0 :: R).length : Nat) : Int) - ((R.length + 1 - at1 : Nat) : Int))) (by omega) (by omega), w64 (by omega) (by omega)]
          refine Tri.ldG (⟨fin, op, mk, key, dd⟩ : Fr).t rfl (Cells.here (i := 0) (by simp [Fr.cells, frc]) (by rfl)) (Tri.drop (Tri.ret ⟨?_, rfl⟩))
          have en : ((((b0 :: R).length : Nat) : Int) - ((R.length + 1 - at1 : Nat) : Int)) + (n : Int) = ((at1 + n : Nat) : Int) := by omega
          rw [en]; rfl
/-! ### One, All -/
theorem ref10_One_spec {l : List UInt8} {masked : Bool} {most : Nat} (hK : KBig K) (hb : l.length ≤ 281474976710656) (hm : most < 4611686018427387904) :
    Tri ρ L (ref10_One K (ba l) masked most) (fun r L' => r = ((lookM masked most l).1.t, ((lookM masked most l).2.1 : Int), ((lookM masked most l).2.2 : Int)) ∧ L' = L) := by
  unfold ref10_One
  rw [ba_size, frc_zero]
  have nt : Tapi_Frame.mk false (0 : Int) false (0 : Int) (0 : Int) (0 : Int) (0 : Int) (ByteArray.mk #[]) = Fr.none.t := rfl
  rw [nt]
  refine Tri.new fun x1 => ?_
  -- the first byte alone
  refine Tri.bndS (D := fun _ L' => (1 < l.length → (frGet (l.take 1) most).2.2 ≠ 91) ∧ (∃ N, L' = N ++ (pts x1 (frc Fr.none) :: L))) ?_ ?_
  · cases l with
    | nil => exact Tri.ret ⟨by simp, [], rfl⟩
    | cons b0 r =>
      have hd : decide ((0 : Int) < (((b0 :: r).length : Nat) : Int)) = true := by simp
      rw [hd]
      simp only [if_true]
      refine Tri.slStr 0 1 (by rfl) (by rfl) (by omega) (by rw [ba_size]; simp) ?_
      have e1 : (ba (b0 :: r)).extract 0 1 = ba [b0] := by rw [ba_extract]; rfl
      rw [e1]
      refine Tri.bnd (ref09_Get_spec hK (by simp) hm) ?_
      rintro _ _ ⟨rfl, rfl⟩
      refine Tri.new fun x8 => ?_
      have hlk : (frGet [b0] most).2.2 = 91 → lookM masked most (b0 :: r) = (Fr.none, 0, 91) := by
        intro h
        unfold lookM
        by_cases hr : 1 < (b0 :: r).length
        · rw [if_pos hr]
          have : (b0 :: r).take 1 = [b0] := rfl
          rw [this, if_pos h]
        · rw [if_neg hr]
          have hr0 : r = [] := by
            cases r with
            | nil => rfl
            | cons c r => simp at hr
          subst hr0
          rw [frGet_cons] at h ⊢
          cases hbd : frBad b0 (([] : List UInt8).headD 0) with
          | true => rfl
          | false => rw [hbd] at h; simp [frTail, getLen] at h
      generalize hg : frGet [b0] most = g at hlk ⊢
      refine Tri.stB (l := frc g.1) (by rfl) (by simp [frc]) rfl ?_
      have e91 : (((g.2.2 : Nat) : Int) == 91) = decide (g.2.2 = 91) := by rw [Bool.eq_iff_iff]; simp only [beq_iff_eq, decide_eq_true_eq]; omega
      dsimp only
      rw [e91]
      by_cases c : g.2.2 = 91
      · rw [decide_eq_true c]
        simp only [if_true]
        rw [hlk c]
        refine Tri.drop (Tri.stB (l := frc Fr.none) (by rfl) (by simp [frc]) rfl (Tri.inr (Tri.ldG Fr.none.t rfl (Cells.here (i := 0) (by simp [Fr.cells, frc, splice]) (by rfl)) (Tri.drop (Tri.ret ⟨?_, rfl⟩)))))
        rw [c]; rfl
      · rw [decide_eq_false c]
        simp only [Bool.false_eq_true, if_false]
        refine Tri.ret ⟨fun _ => ?_, [_], rfl⟩
        have : (b0 :: r).take 1 = [b0] := rfl
        rw [this, hg]; exact c
  · rintro _ _ ⟨h91, N, rfl⟩
    refine Tri.keep ?_ N
    refine Tri.val (decide (1 < l.length ∧ (decide (128 ≤ (l.getD 1 0).toNat) == masked) = false)) ?_ ?_
    · by_cases h1 : 1 < l.length
      · have hd : decide ((1 : Int) < ((l.length : Nat) : Int)) = true := by simp; omega
        rw [hd]
        simp only [if_true]
        refine Tri.chk (by omega) (Tri.ret ⟨?_, rfl⟩)
        have hbt : bt (ba l) 1 = ((l.getD 1 0).toNat : Int) := bt_ba l 1 h1
        rw [hbt]
        have e5 : decide ((128 : Int) ≤ ((l.getD 1 0).toNat : Int)) = decide (128 ≤ (l.getD 1 0).toNat) := by rw [Bool.eq_iff_iff]; simp only [decide_eq_true_eq]; omega
        rw [e5]
        cases (decide (128 ≤ (l.getD 1 0).toNat) == masked) <;> simp [h1]
      · have hd : decide ((1 : Int) < ((l.length : Nat) : Int)) = false := by simp; omega
        rw [hd]
        simp only [Bool.false_eq_true, if_false]
        exact Tri.ret ⟨by rw [eq_comm, decide_eq_false]; exact fun h => h1 h.1, rfl⟩
    by_cases hc : 1 < l.length ∧ (decide (128 ≤ (l.getD 1 0).toNat) == masked) = false
    · rw [decide_eq_true hc]
      simp only [if_true]
      have hl : lookM masked most l = (Fr.none, 0, 100) := by unfold lookM; rw [if_pos hc.1, if_neg (h91 hc.1), if_pos hc.2]
      rw [hl]
      exact retFr rfl (frc_len _) ⟨rfl, rfl⟩
    · rw [decide_eq_false hc]
      simp only [Bool.false_eq_true, if_false]
      have hl : lookM masked most l = frGet l most := by
        unfold lookM
        by_cases h1 : 1 < l.length
        · rw [if_pos h1, if_neg (h91 h1), if_neg (fun h => hc ⟨h1, h⟩)]
        · rw [if_neg h1]
      rw [hl]
      refine Tri.bnd (ref09_Get_spec hK hb hm) ?_
      rintro _ _ ⟨rfl, rfl⟩
      exact retFr rfl (frc_len _) ⟨rfl, rfl⟩
theorem ref10_All_spec {l : List UInt8} {masked : Bool} {most : Nat} (hK : KBig K) (hb : l.length ≤ 1099511627776) (hm : most < 4611686018427387904) :
    Tri ρ L (ref10_All K (ba l) masked most) (fun r L' => r.1.n = (parse masked most l).1.length ∧ r.2.1 = ((parse masked most l).2.2 : Int) ∧ r.2.2 = (((parse masked most l).2.1.length : Nat) : Int) ∧ L' = row r.1 8 (frl (parse masked most l).1) :: L) := by
  unfold ref10_All
  refine Tri.new fun x1 => ?_
  refine Tri.rowClose (o := 0) (s := ⟨some ⟨x1, 0, none⟩, 0, 0⟩) (sz := 8) (l := []) rfl (by simp) (by simp) (Nat.le_refl _) rfl ?_
  refine Tri.loopN (I := fun n (s : ByteArray × Sl) L' => ∃ (p : List UInt8) (fs : List Fr), n = p.length ∧ s.1 = ba p ∧ p.length + fs.length ≤ l.length ∧ s.2.n = fs.length ∧ parse masked most l = (fs ++ (parse masked most p).1, (parse masked most p).2) ∧ L' = row s.2 8 (frl fs) :: L) ?_ l.length (by unfold KBig at hK; omega) ⟨l, [], rfl, rfl, by simp, rfl, by simp, rfl⟩
  rintro again _ ⟨s1, s2⟩ L' ⟨p, fs, rfl, h1, hl, h2, hp, rfl⟩ ih
  dsimp only at h1 h2 ⊢
  subst h1
  unfold ref10_All_l0
  dsimp only
  refine Tri.bnd (ref10_One_spec hK (by omega) hm) ?_
  rintro _ _ ⟨rfl, rfl⟩
  have hpe := parse_eq masked most p
  have hlk := @look_ok masked most p
  generalize lookM masked most p = g at hpe hlk ⊢
  obtain ⟨f, n, e⟩ := g
  dsimp only at hpe hlk ⊢
  rw [frc_zero]
  refine Tri.new fun x12 => ?_
  refine Tri.stB (l := frc f) (by rfl) (by simp [frc]) rfl ?_
  have es : splice (frc Fr.none) 0 (frc f) = frc f := rfl
  rw [es]
  have e90 : (((e : Nat) : Int) == 90) = decide (e = 90) := by rw [Bool.eq_iff_iff]; simp only [beq_iff_eq, decide_eq_true_eq]; omega
  rw [e90, bneN]
  by_cases c90 : e = 90
  · rw [decide_eq_true c90]
    simp only [if_true]
    rw [if_neg (by omega), if_pos c90] at hpe
    rw [hpe] at hp
    rw [ba_size]
    refine Tri.lt (Tri.drop (Tri.ret ?_))
    rw [hp]
    exact ⟨by simpa using h2, rfl, rfl, by simp⟩
  · rw [decide_eq_false c90]
    simp only [Bool.false_eq_true, if_false]
    by_cases c0 : e = 0
    · rw [decide_eq_false (by simp [c0])]
      simp only [Bool.false_eq_true, if_false]
      rw [if_pos c0] at hpe
      obtain ⟨_, hn1, hn2⟩ := hlk c0
      refine Tri.drw (Tri.ldG f.t rfl (Cells.here (i := 0) (by simp [Fr.cells, frc]) (by rfl)) (Tri.drop ?_))
      refine Tri.slStr n p.length (by rfl) (by simp [ba_size]) hn2 (by rw [ba_size]; exact Nat.le_refl _) ?_
      have ex : (ba p).extract n p.length = ba (p.drop n) := by rw [ba_extract, List.take_of_length_le (by simp)]
      rw [ex]
      refine Tri.new fun x16 => Tri.pick 1 rfl ?_
      refine Tri.appS (new := frc f) (Rd.pts (o := 0) rfl (by simp [Fr.cells]) rfl) rfl rfl (by simp; omega) fun s' hs' => ?_
      rw [← frl_snoc]
      refine Tri.pick 1 rfl (Tri.drop ?_)
      refine ih (p.drop n).length _ _ (by simp; omega) ⟨p.drop n, fs ++ [f], rfl, rfl, by simp; omega, by rw [hs', h2]; simp, ?_, rfl⟩
      rw [hp, hpe]; simp
    · rw [decide_eq_true c0]
      simp only [if_true]
      rw [if_neg c0, if_neg c90] at hpe
      rw [hpe] at hp
      refine Tri.drop (Tri.ret ?_)
      rw [hp]
      exact ⟨by simpa using h2, rfl, rfl, by simp⟩
end Go.Proofs.Ytjdnjlnfcbaokaa

/-
  SPECS, 19: the document's side of bytes: the walk (layers 8, 9, 10). Own work.
-/
import Derived.Test.YtjdnjlnfcbaokaaSp18
set_option linter.unusedVariables false
set_option linter.unusedSimpArgs false
set_option maxRecDepth 20000
namespace Go.Proofs.Ytjdnjlnfcbaokaa
open Go Go.Lg
variable {α β σ τ : Type} {ρ : Hp} {L M : As} {K : Nat}

theorem tmodN (a b : Nat) : Int.tmod (a : Int) (b : Int) = ((a % b : Nat) : Int) := rfl
theorem tdivN (a b : Nat) : Int.tdiv (a : Int) (b : Int) = ((a / b : Nat) : Int) := rfl
theorem ref08_Get_spec {l : List UInt8} (hK : KBig K) (hb : l.length ≤ 281474976710656) : Tri ρ L (ref08_Get K (ba l)) (fun r L' => r = (((getLen l).1 : Int), ((getLen l).2.1 : Int), ((getLen l).2.2 : Int)) ∧ L' = L) := by
  unfold ref08_Get
  rw [ba_size]
  cases l with
  | nil => exact Tri.ret ⟨rfl, rfl⟩
  | cons b r =>
    have hd : (((b :: r).length : Int) == 0) = false := by simp; omega
    rw [hd]
    simp only [Bool.false_eq_true, if_false]
    refine Tri.chk (by simp) (Tri.lt ?_)
    have hbt : bt (ba (b :: r)) 0 = (b.toNat : Int) := bt_ba (b :: r) 0 (by simp)
    have et : Int.tmod (b.toNat : Int) 128 = ((b.toNat % 128 : Nat) : Int) := rfl
    rw [hbt, et, getLen_ref]
    have hlt := u8lt b
    by_cases c1 : b.toNat % 128 < 126
    · have hd : decide (((b.toNat % 128 : Nat) : Int) < 126) = true := by simp; omega
      rw [hd, if_pos c1]
      simp only [if_true]
      refine Tri.lt (Tri.ret ⟨?_, rfl⟩)
      rw [wu64 (by omega) (by omega)]; rfl
    · have hd : decide (((b.toNat % 128 : Nat) : Int) < 126) = false := by simp; omega
      rw [hd, if_neg c1]
      simp only [Bool.false_eq_true, if_false]
      obtain ⟨size, hsz, hs8⟩ : ∃ size, size = (if b.toNat % 128 = 127 then 8 else 2) ∧ (size = 8 ∨ size = 2) := ⟨_, rfl, by split <;> simp⟩
      have e1 : (if (((b.toNat % 128 : Nat) : Int) == 127) = true then ret ((8 : Int)) else ret ((2 : Int)) : G Int) = ret (size : Int) := by
        rw [hsz]
        by_cases c2 : b.toNat % 128 = 127
        · have : (((b.toNat % 128 : Nat) : Int) == 127) = true := by simp; omega
          rw [this, if_pos c2]; rfl
        · have : (((b.toNat % 128 : Nat) : Int) == 127) = false := by simp; omega
          rw [this, if_neg c2]; rfl
      rw [e1, bnd_ret, ← hsz]
      have sz8 : ((size : Int) == 8) = decide (size = 8) := by rw [Bool.eq_iff_iff]; simp; omega
      have sz2 : ((size : Int) == 2) = decide (size = 2) := by rw [Bool.eq_iff_iff]; simp; omega
      refine Tri.bndS (D := fun s L' => ∃ n : Nat, s = (n : Int) ∧ ref8 size r 0 0 true = (n, 1 + size, 0) ∧ L' = L) ?_ ?_
      · refine Tri.loop (μ := fun (i : Int × Bool × Int) => 9 - i.2.2.toNat) (I := fun (s : Int × Bool × Int) L' => ∃ (i n : Nat), s.2.2 = i ∧ i ≤ size ∧ i ≤ r.length ∧ s.1 = (n : Int) ∧ n < 256 ^ i ∧ ref8 size r 0 0 true = ref8 size (r.drop i) i n s.2.1 ∧ L' = L) ?_ (by unfold KBig at hK; simp; omega)
          ⟨0, 0, rfl, by omega, by omega, rfl, by simp, rfl, rfl⟩
        rintro again ⟨s1, z, s3⟩ L' ⟨i, n, hi, his, hir, hn, hnb, href, rfl⟩ ih
        dsimp only at hi hn href ⊢
        subst hi; subst hn
        unfold ref08_Get_l0
        dsimp only
        rw [ba_size]
        by_cases hlt : i < size
        · have hd : decide ((i : Int) < (size : Int)) = true := by simp; omega
          rw [hd]
          simp only [if_true]
          have hw : IntKind.wrap .i64 ((i : Int) + 1) = ((i + 1 : Nat) : Int) := by rw [w64 (by omega) (by omega)]; omega
          rw [hw]
          by_cases hend : r.length ≤ i
          · have hd : decide ((((b :: r).length : Nat) : Int) ≤ ((i + 1 : Nat) : Int)) = true := by simp; omega
            rw [hd]
            simp only [if_true]
            refine Tri.inr (Tri.ret ?_)
            have hdr : r.drop i = [] := List.drop_eq_nil_of_le hend
            rw [href, hdr]
            unfold ref8
            rw [if_pos hlt]
            exact ⟨rfl, rfl⟩
          · have hd : decide ((((b :: r).length : Nat) : Int) ≤ ((i + 1 : Nat) : Int)) = false := by simp; omega
            rw [hd]
            simp only [Bool.false_eq_true, if_false]
            have hil : i < r.length := by omega
            refine Tri.chk (by simp; omega) (Tri.lt ?_)
            have hbt2 : bt (ba (b :: r)) ((i + 1 : Nat) : Int) = (r[i].toNat : Int) := by
              rw [bt_ba (b :: r) (i + 1) (by simp; omega)]
              simp [List.getD_eq_getElem?_getD, List.getElem?_eq_getElem hil]
            rw [hbt2]
            have hdr : r.drop i = r[i] :: r.drop (i + 1) := List.drop_eq_getElem_cons hil
            rw [hdr] at href
            generalize r[i] = c at href ⊢
            have hc := u8lt c
            rw [ref8_cons, if_pos hlt] at href
            have e8 : (if ((size : Int) == 8) = true then ret (((i : Nat) : Int) == 0) else ret false : G Bool) = ret (decide (size = 8 ∧ i = 0)) := by
              rw [sz8]
              by_cases h8 : size = 8
              · rw [decide_eq_true h8]; simp only [if_true]; congr 1; rw [Bool.eq_iff_iff]; simp; omega
              · rw [decide_eq_false h8]; simp only [Bool.false_eq_true, if_false]; congr 1; rw [eq_comm, decide_eq_false]; omega
            rw [e8, bnd_ret]
            have e9 : (if decide (size = 8 ∧ i = 0) = true then ret (decide ((128 : Int) ≤ (c.toNat : Int))) else ret false : G Bool) = ret (decide (size = 8 ∧ i = 0 ∧ 128 ≤ c.toNat)) := by
              by_cases h8 : size = 8 ∧ i = 0
              · rw [decide_eq_true h8]; simp only [if_true]; congr 1; rw [Bool.eq_iff_iff]; simp only [decide_eq_true_eq]; omega
              · rw [decide_eq_false h8]; simp only [Bool.false_eq_true, if_false]; congr 1; rw [eq_comm, decide_eq_false]; omega
            rw [e9, bnd_ret]
            by_cases hA : size = 8 ∧ i = 0 ∧ 128 ≤ c.toNat
            · rw [if_pos hA] at href
              rw [decide_eq_true hA, href]
              simp only [if_true]
              exact Tri.inr (Tri.ret ⟨rfl, rfl⟩)
            · rw [if_neg hA] at href
              rw [decide_eq_false hA]
              simp only [Bool.false_eq_true, if_false]
              have ez : (if z = true then ret (((c.toNat : Nat) : Int) == 0) else ret false : G Bool) = ret (z && decide (c.toNat = 0)) := by
                cases z with
                | true => simp only [if_true, Bool.true_and]; congr 1; rw [beqN]
                | false => rfl
              rw [ez, bnd_ret]
              generalize hz' : (z && decide (c.toNat = 0)) = z' at href ⊢
              have hpow : 256 * n + c.toNat < 256 ^ (i + 1) := by rw [Nat.pow_succ]; omega
              have hpow8 : 256 ^ (i + 1) ≤ 256 ^ 8 := Nat.pow_le_pow_right (by omega) (by omega)
              have h64 : (256 : Nat) ^ 8 = 18446744073709551616 := by decide
              have en : IntKind.wrap .u64 (IntKind.wrap .u64 ((256 : Int) * (n : Int)) + IntKind.wrap .u64 (c.toNat : Int)) = ((256 * n + c.toNat : Nat) : Int) := by
                rw [wu64 (x := (c.toNat : Int)) (by omega) (by omega), wu64 (x := (256 : Int) * (n : Int)) (by omega) (by omega), wu64 (by omega) (by omega)]; omega
              rw [en]
              refine Tri.lt ?_
              generalize 256 * n + c.toNat = n' at href hpow ⊢
              have e5 : (if ((size : Int) == 8) = true then ret (((i : Nat) : Int) == 5) else ret false : G Bool) = ret (decide (size = 8 ∧ i = 5)) := by
                rw [sz8]
                by_cases h8 : size = 8
                · rw [decide_eq_true h8]; simp only [if_true]; congr 1; rw [Bool.eq_iff_iff]; simp; omega
                · rw [decide_eq_false h8]; simp only [Bool.false_eq_true, if_false]; congr 1; rw [eq_comm, decide_eq_false]; omega
              rw [e5, bnd_ret]
              have e6 : (if decide (size = 8 ∧ i = 5) = true then ret z' else ret false : G Bool) = ret (decide (size = 8 ∧ i = 5 ∧ z' = true)) := by
                by_cases h8 : size = 8 ∧ i = 5
                · rw [decide_eq_true h8]; simp only [if_true]; congr 1; cases z' <;> simp [h8]
                · rw [decide_eq_false h8]; simp only [Bool.false_eq_true, if_false]; congr 1; rw [eq_comm, decide_eq_false]; rintro ⟨a, b, _⟩; exact h8 ⟨a, b⟩
              rw [e6, bnd_ret]
              have e7 : (if ((size : Int) == 2) = true then ret (((i : Nat) : Int) == 1) else ret false : G Bool) = ret (decide (size = 2 ∧ i = 1)) := by
                rw [sz2]
                by_cases h8 : size = 2
                · rw [decide_eq_true h8]; simp only [if_true]; congr 1; rw [Bool.eq_iff_iff]; simp; omega
                · rw [decide_eq_false h8]; simp only [Bool.false_eq_true, if_false]; congr 1; rw [eq_comm, decide_eq_false]; omega
              rw [e7]
              have e10 : (if decide (size = 2 ∧ i = 1) = true then ret (decide ((n' : Int) < 126)) else ret false : G Bool) = ret (decide (size = 2 ∧ i = 1 ∧ n' < 126)) := by
                by_cases h8 : size = 2 ∧ i = 1
                · rw [decide_eq_true h8]; simp only [if_true]; congr 1; rw [Bool.eq_iff_iff]; simp only [decide_eq_true_eq]; omega
                · rw [decide_eq_false h8]; simp only [Bool.false_eq_true, if_false]; congr 1; rw [eq_comm, decide_eq_false]; omega
              simp only [bnd_ret]
              rw [e10]
              simp only [bnd_ret]
              have e11 : (if decide (size = 8 ∧ i = 5 ∧ z' = true) = true then ret true else ret (decide (size = 2 ∧ i = 1 ∧ n' < 126)) : G Bool) = ret (decide ((size = 8 ∧ i = 5 ∧ z' = true) ∨ (size = 2 ∧ i = 1 ∧ n' < 126))) := by
                by_cases h8 : size = 8 ∧ i = 5 ∧ z' = true
                · rw [decide_eq_true h8, decide_eq_true (Or.inl h8)]; rfl
                · rw [decide_eq_false h8]; simp only [Bool.false_eq_true, if_false]; congr 1
                  rw [Bool.eq_iff_iff]; simp only [decide_eq_true_eq]; exact ⟨Or.inr, fun h => h.resolve_left h8⟩
              rw [e11, bnd_ret]
              by_cases hB : (size = 8 ∧ i = 5 ∧ z' = true) ∨ (size = 2 ∧ i = 1 ∧ n' < 126)
              · rw [if_pos hB] at href
                rw [decide_eq_true hB, href]
                simp only [if_true]
                exact Tri.inr (Tri.ret ⟨rfl, rfl⟩)
              · rw [if_neg hB] at href
                rw [decide_eq_false hB]
                simp only [Bool.false_eq_true, if_false]
                refine Tri.lt ?_
                exact ih _ _ ⟨i + 1, n', rfl, by omega, by omega, rfl, hpow, href, rfl⟩ (by simp; omega)
        · have hd : decide ((i : Int) < (size : Int)) = false := by simp; omega
          rw [hd]
          simp only [Bool.false_eq_true, if_false]
          refine Tri.ret ⟨n, rfl, ?_, rfl⟩
          rw [href]
          have hi8 : i = size := by omega
          cases r.drop i with
          | nil => unfold ref8; rw [if_neg hlt]
          | cons c t => unfold ref8; rw [if_neg hlt]
      · rintro _ _ ⟨n, rfl, hre, rfl⟩
        rw [hre]
        refine Tri.lt (Tri.ret ⟨?_, rfl⟩)
        have : IntKind.wrap .i64 ((1 : Int) + (size : Int)) = ((1 + size : Nat) : Int) := by rw [w64 (by omega) (by omega)]; omega
        rw [this]; rfl
/-! ### Apply -/
theorem ref08_Apply_spec {k : Key} {l : List UInt8} (hK : KBig K) (hb : l.length ≤ 281474976710656) : Tri ρ L (ref08_Apply K k.t 0 (ba l)) (fun r L' => r = ba (turn k 0 l) ∧ L' = L) := by
  unfold ref08_Apply
  refine Tri.new fun x1 => Tri.lt (Tri.lt ?_)
  rw [Key.cells]
  have e1 : Int.tmod 0 4 = 0 := rfl
  have e2 : decide ((0 : Int) < 0) = false := rfl
  rw [e1, e2]
  simp only [Bool.false_eq_true, if_false, bnd_ret]
  refine Tri.lt ?_
  rw [ba_nil]
  refine Tri.bnd (B := fun r L' => r = ba (turn k 0 l) ∧ L' = pts x1 (bl k.l) :: L) ?_ ?_
  · refine Tri.loop (μ := fun (s : ByteArray × Int) => l.length - s.2.toNat) (I := fun (s : ByteArray × Int) L' => ∃ j : Nat, s.2 = j ∧ j ≤ l.length ∧ s.1 = ba (turn k 0 (l.take j)) ∧ L' = pts x1 (bl k.l) :: L) ?_ (by unfold KBig at hK; simp; omega) ⟨0, rfl, by omega, rfl, rfl⟩
    rintro again ⟨s1, s2⟩ L' ⟨j, h2, hj, h1, rfl⟩ ih
    dsimp only at h2 h1
    subst h2; subst h1
    unfold ref08_Apply_l0
    dsimp only
    rw [ba_size]
    refine Tri.ite ?_ ?_
    · intro hc
      have c1 : j < l.length := by simp at hc; omega
      have hw : IntKind.wrap .i64 ((0 : Int) + (j : Int)) = (j : Int) := by rw [w64 (by omega) (by omega)]; omega
      have et : Int.tmod (j : Int) 4 = ((j % 4 : Nat) : Int) := rfl
      rw [hw, et]
      refine Tri.drw (Tri.chk (by omega) (Tri.chk (by omega) ?_))
      rw [Int.toNat_natCast, Nat.mul_one, addr_add, Nat.zero_add]
      refine Tri.ldI (Cell.here (key_get k j)) ?_
      have hbt : bt (ba l) (j : Int) = (l[j].toNat : Int) := by
        rw [bt_ba l j c1]; simp [List.getD_eq_getElem?_getD, List.getElem?_eq_getElem c1]
      rw [hbt, xor8]
      refine Tri.new fun x39 => ?_
      refine Tri.strOf (t := ba [l[j] ^^^ k.at_ j]) (by rw [bytes_ba]; exact Rd.lit (l := [l[j] ^^^ k.at_ j])) ?_
      refine Tri.drop (Tri.chk (by rw [ba_size, ba_size, turn_length]; simp; omega) (Tri.lt (Tri.lt ?_)))
      rw [w64 (by omega) (by omega)]
      refine ih _ _ ⟨j + 1, by simp, by omega, ?_, rfl⟩ (by simp; omega)
      show ba (turn k 0 (l.take j)) ++ ba [l[j] ^^^ k.at_ j] = _
      rw [ba_append]
      congr 1
      have key : ∀ (m : List UInt8) (i : Nat) (c : UInt8), turn k i (m ++ [c]) = turn k i m ++ [c ^^^ k.at_ (i + m.length)] := by
        intro m
        induction m with
        | nil => intro i c; simp [turn]
        | cons a m ih => intro i c; simp only [List.cons_append, turn, ih, List.length_cons]; rw [show i + 1 + m.length = i + (m.length + 1) by omega]
      rw [List.take_add_one, List.getElem?_eq_getElem c1]
      simp only [Option.toList_some]
      rw [key]
      simp [Nat.min_eq_left (show j ≤ l.length by omega)]
    · intro hc
      have c1 : j = l.length := by simp at hc; omega
      subst c1
      exact Tri.ret ⟨by rw [List.take_length], rfl⟩
  · rintro _ _ ⟨rfl, rfl⟩
    exact Tri.drop (Tri.ret ⟨rfl, rfl⟩)
end Go.Proofs.Ytjdnjlnfcbaokaa

/-
  SPECS, 9: close.Code, close.Across, cut.Frames, slices.IndexFunc. Own work.
-/
import Derived.Test.YtjdnjlnfcbaokaaGreatSp8
set_option linter.unusedVariables false
set_option linter.unusedSimpArgs false
set_option maxRecDepth 20000
namespace Go.Proofs.YtjdnjlnfcbaokaaGreat
open Go Go.Lg
variable {α β σ τ : Type} {ρ : Hp} {L M : As} {K : Nat}

def ints (es : List Nat) : List Value := es.map fun (n : Nat) => .int .i64 (n : Int)
theorem contains_spec {s : Sl} {es : List Nat} {e : Nat} (hK : KBig K) (hr : Rd ρ L s 1 (ints es)) (hn : s.n = es.length) (hb : es.length ≤ 1099511627776) :
    Tri ρ L (close_one_api_Errno_ K e s) (fun r L' => r = decide (e ∈ es) ∧ L' = L) := by
  unfold close_one_api_Errno_ slices_Contains_Errno slices_Index_Errno
  simp only [bnd_ret, bnd_bnd, bnd_ite, bnd_lt, bnd_ldB, bnd_ldI, bnd_ldS, bnd_ldP, bnd_ldSl, bnd_ldG, bnd_nn, bnd_ixA, bnd_st, bnd_drw, bnd_strOf, bnd_new, bnd_slS, bnd_slA, bnd_slStr, bnd_app, bnd_appS, bnd_appT, bnd_appZ, bnd_chk, bnd_mk, bnd_cpy, bnd_wld, bnd_agr, bnd_bytesOf, bnd_drw2, bnd_mrk, bnd_fail, sumK_inl, sumK_inr, bnd_inr]
  refine Tri.bnd (B := fun r L' => (match r with | .inl _ => e ∉ es | .inr i => 0 ≤ i ∧ e ∈ es) ∧ L' = L) ?_ ?_
  · refine Tri.loop (μ := fun (i : Int) => es.length - i.toNat) (I := fun (i : Int) L' => ∃ j : Nat, i = j ∧ j ≤ es.length ∧ e ∉ es.take j ∧ L' = L) ?_ (by unfold KBig at hK; simp; omega) ⟨0, rfl, by omega, by simp, rfl⟩
    rintro again i L0 ⟨j, rfl, hj, hne, rfl⟩ ih
    unfold slices_Index_Errno_l0
    refine Tri.ite ?_ ?_
    · intro hc
      have hj' : j < es.length := by simp at hc; omega
      have hv : (ints es)[j]? = some (.int .i64 (es[j] : Int)) := by simp [ints, List.getElem?_eq_getElem hj']
      refine Tri.ixA j hr rfl (by omega) (by intro e; rw [e] at hv; simp at hv) fun x hx => ?_
      refine Tri.ldI (hx.cell hr hv (by omega)) ?_
      rw [beqI]
      refine Tri.ite ?_ ?_
      · intro h
        refine Tri.inr (Tri.ret ⟨⟨by omega, ?_⟩, rfl⟩)
        simp only [beq_iff_eq] at h; rw [h]; exact List.getElem_mem hj'
      · intro h
        rw [w64 (by omega) (by omega)]
        refine ih _ _ ⟨j + 1, by simp, by omega, ?_, rfl⟩ (by simp; omega)
        rw [List.take_add_one, List.getElem?_eq_getElem hj']
        simp only [Option.toList_some, List.mem_append, List.mem_singleton, not_or]
        exact ⟨hne, by simpa using h⟩
    · intro hc
      have hj' : es.length ≤ j := by simp at hc; omega
      rw [List.take_of_length_le hj'] at hne
      exact Tri.ret ⟨hne, rfl⟩
  · rintro (r | r) L0 ⟨h, rfl⟩
    · simp only at h
      refine Tri.ret ⟨?_, rfl⟩
      simp [h]
    · simp only at h
      refine Tri.ret ⟨?_, rfl⟩
      simp [h]
def codeOf (e : Nat) : Nat := if e = 0 then 1000 else if e = 91 ∨ e = 100 ∨ e = 110 ∨ e = 120 then 1002 else if e = 111 ∨ e = 122 then 1007 else if e = 92 ∨ e = 121 then 1009 else 1011
theorem code_spec {e : Nat} (hK : KBig K) : Tri ρ L (close_Code K e) (fun r L' => r = (codeOf e : Nat) ∧ L' = L) := by
  unfold close_Code
  refine Tri.new fun x1 => Tri.new fun x2 => ?_
  have one : ∀ {x n : Nat} {es : List Nat} {L' : As} {f : Bool → G Int} {C : Int → As → Prop}, n = es.length → n ≤ 10 → (∀ r, r = decide (e ∈ es) → Tri ρ (pts x1 [.int .i64 (e : Int)] :: L') (f r) C) →
      Tri ρ (pts x (ints es) :: pts x1 [.int .i64 (e : Int)] :: L') (bnd (close_Code_1 K ⟨some ⟨x, 0, none⟩, n, n⟩ ⟨x1, 0, none⟩) f) C := by
    intro x n es L' f C hn hn10 h
    unfold close_Code_1
    simp only [bnd_ret, bnd_bnd, bnd_ite, bnd_lt, bnd_ldB, bnd_ldI, bnd_ldS, bnd_ldP, bnd_ldSl, bnd_ldG, bnd_nn, bnd_ixA, bnd_st, bnd_drw, bnd_strOf, bnd_new, bnd_slS, bnd_slA, bnd_slStr, bnd_app, bnd_appS, bnd_appT, bnd_appZ, bnd_chk, bnd_mk, bnd_cpy, bnd_wld, bnd_agr, bnd_bytesOf, bnd_drw2, bnd_mrk, bnd_fail, sumK_inl, sumK_inr, bnd_inr]
    refine Tri.ldI (Cell.here (i := 0) rfl).tail ?_
    refine Tri.bnd (contains_spec (es := es) hK (Rd.pts (o := 0) rfl (by simp [ints, hn]) (by rw [List.drop_zero, Nat.mul_one]; exact List.take_of_length_le (by simp [ints, hn]))) hn (by omega)) ?_
    rintro _ _ ⟨rfl, rfl⟩
    exact Tri.drop (h _ rfl)
  refine one (es := [0]) rfl (by omega) ?_
  rintro r rfl
  refine Tri.ite ?_ ?_
  · intro h
    have h' : e = 0 := by simpa using h
    exact Tri.drop (Tri.ret ⟨by simp [codeOf, h'], rfl⟩)
  intro h
  have h1 : e ≠ 0 := by simpa using h
  clear h
  refine Tri.new fun x4 => ?_
  refine one (es := [91, 100, 110, 120]) rfl (by omega) ?_
  rintro r rfl
  refine Tri.ite ?_ ?_
  · intro h
    have h' : e = 91 ∨ e = 100 ∨ e = 110 ∨ e = 120 := by simpa using h
    exact Tri.drop (Tri.ret ⟨by simp only [codeOf]; rw [if_neg h1, if_pos h']; rfl, rfl⟩)
  intro h
  have h2 : ¬ (e = 91 ∨ e = 100 ∨ e = 110 ∨ e = 120) := by simpa using h
  clear h
  refine Tri.new fun x6 => ?_
  refine one (es := [111, 122]) rfl (by omega) ?_
  rintro r rfl
  refine Tri.ite ?_ ?_
  · intro h
    have h' : e = 111 ∨ e = 122 := by simpa using h
    exact Tri.drop (Tri.ret ⟨by simp only [codeOf]; rw [if_neg h1, if_neg h2, if_pos h']; rfl, rfl⟩)
  intro h
  have h3 : ¬ (e = 111 ∨ e = 122) := by simpa using h
  clear h
  refine Tri.new fun x8 => ?_
  refine one (es := [92, 121]) rfl (by omega) ?_
  rintro r rfl
  refine Tri.ite ?_ ?_
  · intro h
    have h' : e = 92 ∨ e = 121 := by simpa using h
    exact Tri.drop (Tri.ret ⟨by simp only [codeOf]; rw [if_neg h1, if_neg h2, if_neg h3, if_pos h']; rfl, rfl⟩)
  · intro h
    have h4 : ¬ (e = 92 ∨ e = 121) := by simpa using h
    exact Tri.drop (Tri.ret ⟨by simp only [codeOf]; rw [if_neg h1, if_neg h2, if_neg h3, if_neg h4]; rfl, rfl⟩)
def acrossOf (c : Int) : Int := if c = 1005 then 0 else if validC c = true then c else 1011
theorem across_spec {c : Int} : Tri ρ L (close_Across K c) (fun r L' => r = acrossOf c ∧ L' = L) := by
  unfold close_Across
  refine Tri.lt (Tri.ite ?_ ?_)
  · intro h
    have h' : c = 1005 := by simpa using h
    exact Tri.ret ⟨by simp [acrossOf, h'], rfl⟩
  · intro h
    have h' : ¬ c = 1005 := by simpa using h
    refine Tri.bnd validC_spec ?_
    rintro _ _ ⟨rfl, rfl⟩
    refine Tri.ite ?_ ?_
    · intro h2; exact Tri.ret ⟨by simp [acrossOf, h', h2], rfl⟩
    · intro h2; exact Tri.ret ⟨by simp [acrossOf, h', h2], rfl⟩
theorem frl_get (fs : List Fr) (j : Nat) (h : j < fs.length) : ((frl fs).drop (j * 8)).take 8 = frc fs[j] := by
  induction fs generalizing j with
  | nil => simp at h
  | cons f fs ih =>
    have e : frl (f :: fs) = frc f ++ frl fs := by simp [frl]
    rw [e]
    cases j with
    | zero => rw [Nat.zero_mul, List.drop_zero, List.getElem_cons_zero]; exact List.take_left' (frc_len f)
    | succ j =>
      have e2 : (j + 1) * 8 = (frc f).length + j * 8 := by rw [frc_len]; omega
      rw [e2, List.drop_length_add_append, List.getElem_cons_succ]
      exact ih j (by simpa using h)
/-- the first pong's place -/
def pongAt : List Fr → Option Nat
  | [] => none
  | f :: r => if f.op = 10 then some 0 else (pongAt r).map (· + 1)
theorem pongAt_drop (fs : List Fr) (j : Nat) (h : ∀ i, i < j → ∀ f, fs[i]? = some f → f.op ≠ 10) : pongAt fs = (pongAt (fs.drop j)).map (· + j) := by
  induction j generalizing fs with
  | zero => simp
  | succ j ih =>
    cases fs with
    | nil => rfl
    | cons f r =>
      have h0 := h 0 (by omega) f rfl
      simp only [pongAt, if_neg h0, List.drop_succ_cons]
      rw [ih r (fun i hi g hg => h (i + 1) (by omega) g (by simpa using hg))]
      simp only [Option.map_map]
      congr 1
def pongI (fs : List Fr) : Int := match pongAt fs with | some i => (i : Int) | none => -1
theorem indexF_spec {s : Sl} {fs : List Fr} (hK : KBig K) (hr : Rd ρ L s 8 (frl fs)) (hn : s.n = fs.length) (hb : fs.length ≤ 1099511627776) :
    Tri ρ L (slices_IndexFunc_Frame K s) (fun r L' => r = pongI fs ∧ L' = L) := by
  unfold slices_IndexFunc_Frame
  refine Tri.bndS (D := fun _ L' => pongAt fs = none ∧ L' = L) ?_ ?_
  · refine Tri.loop (μ := fun (i : Int) => fs.length - i.toNat) (I := fun (i : Int) L' => ∃ j : Nat, i = j ∧ j ≤ fs.length ∧ (∀ i, i < j → ∀ f, fs[i]? = some f → f.op ≠ 10) ∧ L' = L) ?_ (by unfold KBig at hK; simp; omega) ⟨0, rfl, by omega, by intro i hi; omega, rfl⟩
    rintro again i L0 ⟨j, rfl, hj, hne, rfl⟩ ih
    unfold slices_IndexFunc_Frame_l0
    have hpd := pongAt_drop fs j hne
    refine Tri.ite ?_ ?_
    · intro hc
      have hj' : j < fs.length := by simp at hc; omega
      have hg := frl_get fs j hj'
      refine Tri.ixA j hr rfl (by omega) (by intro e; have := congrArg List.length e; rw [frl_length] at this; simp only [List.length_nil] at this; omega) fun x hx => ?_
      refine Tri.ldG fs[j].t rfl (hx.cells hr (by omega) hg rfl) ?_
      unfold leg_Leg_pong_1
      simp only [bnd_ret, bnd_bnd, bnd_ite, bnd_lt, bnd_ldB, bnd_ldI, bnd_ldS, bnd_ldP, bnd_ldSl, bnd_ldG, bnd_nn, bnd_ixA, bnd_st, bnd_drw, bnd_strOf, bnd_new, bnd_slS, bnd_slA, bnd_slStr, bnd_app, bnd_appS, bnd_appT, bnd_appZ, bnd_chk, bnd_mk, bnd_cpy, bnd_wld, bnd_agr, bnd_bytesOf, bnd_drw2, bnd_mrk, bnd_fail, sumK_inl, sumK_inr, bnd_inr]
      refine Tri.new fun b => Tri.ldI (Cell.here (i := 1) rfl) (Tri.lt (Tri.drop ?_))
      have e10 : ((fs[j].t.Op : Int) == 10) = (fs[j].op == 10) := beqI _ 10
      have hd : fs.drop j = fs[j] :: fs.drop (j + 1) := List.drop_eq_getElem_cons hj'
      refine Tri.ite ?_ ?_
      · intro h
        have h' : fs[j].op = 10 := by rw [e10] at h; simpa using h
        refine Tri.inr (Tri.ret ⟨?_, rfl⟩)
        rw [hd] at hpd
        simp only [pongAt, h', if_true, Option.map_some, Nat.zero_add] at hpd
        simp [pongI, hpd]
      · intro h
        have h' : fs[j].op ≠ 10 := by rw [e10] at h; simpa using h
        rw [w64 (by omega) (by omega)]
        refine ih _ _ ⟨j + 1, by simp, by omega, ?_, rfl⟩ (by simp; omega)
        intro i hi f hf
        by_cases e : i = j
        · subst e; rw [List.getElem?_eq_getElem hj'] at hf; simp at hf; rw [← hf]; exact h'
        · exact hne i (by omega) f hf
    · intro hc
      have hj' : fs.length ≤ j := by simp at hc; omega
      rw [List.drop_eq_nil_of_le hj'] at hpd
      exact Tri.ret ⟨by simpa [pongAt] using hpd, rfl⟩
  · rintro _ _ ⟨h, rfl⟩
    exact Tri.ret ⟨by simp [pongI, h], rfl⟩

/-! ### cut -/
def countF (size most : Nat) : Nat := max ((size + most - 1) / most) 1
theorem count_spec {size most : Nat} (h1 : size ≤ 1048576) (h2 : 0 < most) (h3 : most ≤ 65536) : cut_Count K size most = ret ((countF size most : Nat) : Int) := by
  unfold cut_Count
  have a1 : decide ((size : Int) < 0) = false := by simp
  have a2 : decide ((1048576 : Int) < (size : Int)) = false := by simp; omega
  have a3 : decide ((most : Int) < 1) = false := by simp; omega
  have a4 : decide ((65536 : Int) < (most : Int)) = false := by simp; omega
  simp only [a1, a2, a3, a4, Bool.false_eq_true, if_false, bnd_ret]
  have e1 : IntKind.wrap .i64 (IntKind.wrap .i64 ((size : Int) + (most : Int)) - 1) = ((size + most - 1 : Nat) : Int) := by
    rw [w64 (x := (size : Int) + (most : Int)) (by omega) (by omega), w64 (by omega) (by omega)]; omega
  have e2 : Int.tdiv (((size + most - 1 : Nat) : Int)) (most : Int) = (((size + most - 1) / most : Nat) : Int) := rfl
  have hle : (size + most - 1) / most ≤ size + most - 1 := Nat.div_le_self _ _
  rw [e1, e2]
  unfold countF
  generalize (size + most - 1) / most = q at hle ⊢
  rw [w64 (by omega) (by omega)]
  have hne : (most : Int) ≠ 0 := by omega
  have e3 : (if (q : Int) < 1 then (1 : Int) else (q : Int)) = ((max q 1 : Nat) : Int) := by
    split <;> omega
  rw [e3]
  apply G.ext
  intro w Q
  exact ⟨fun h => h.2, fun h => ⟨hne, h⟩⟩
/-- a message as frames -/
def cutF (op : Nat) (data : List UInt8) (most : Nat) : List Fr :=
  (List.range (countF data.length most)).map fun i => ⟨i == countF data.length most - 1, if i = 0 then op else 0, false, Key.zero, (data.drop (i * most)).take most⟩
theorem cut_Frames_spec {op : Nat} {data : List UInt8} {most : Nat} (hK : KBig K) (ho : op = 1 ∨ op = 2) (h1 : data.length ≤ 1048576) (h2 : 0 < most) (h3 : most ≤ 65536) :
    Tri ρ L (cut_Frames K op (ba data) most) (fun r L' => r.2 = 0 ∧ r.1.n = (cutF op data most).length ∧ L' = row r.1 8 (frl (cutF op data most)) :: L) := by
  unfold cut_Frames
  rw [ba_size, count_spec h1 h2 h3, bnd_ret]
  generalize hn : countF data.length most = n
  have hn1 : 1 ≤ n := by rw [← hn]; unfold countF; omega
  have hn2 : n ≤ 2000000 := by
    rw [← hn]; unfold countF
    have : (data.length + most - 1) / most ≤ data.length + most - 1 := Nat.div_le_self _ _
    omega
  have b1 : ((op : Int) != 1) = (op != 1) := by unfold bne; rw [show ((op : Int) == 1) = (op == 1) from beqI op 1]
  have b2 : ((op : Int) != 2) = (op != 2) := by unfold bne; rw [show ((op : Int) == 2) = (op == 2) from beqI op 2]
  have b3 : ((n : Int) == 0) = false := by simp; omega
  rw [b1, b2, b3]
  refine Tri.val false ?_ ?_
  · rcases ho with rfl | rfl
    · exact Tri.ret ⟨rfl, rfl⟩
    · exact Tri.ret ⟨rfl, rfl⟩
  simp only [Bool.false_eq_true, if_false, bnd_ret]
  refine Tri.mkC n rfl rfl rfl (by omega) (by omega) fun x4 h4 => ?_
  let fr : Nat → Fr := fun i => ⟨i == n - 1, if i = 0 then op else 0, false, Key.zero, (data.drop (i * most)).take most⟩
  have hcut : cutF op data most = (List.range n).map fr := by simp only [cutF, hn]; rfl
  refine Tri.bnd (B := fun r L' => r.n = n ∧ L' = row r 8 (frl ((List.range n).map fr)) :: L) ?_ ?_
  · refine Tri.loop (μ := fun (i : Int × Sl × Int) => n - i.2.2.toNat) (I := fun (i : Int × Sl × Int) L' => ∃ j : Nat, i.2.2 = j ∧ j ≤ n ∧ i.1 = ((if j = 0 then op else 0 : Nat) : Int) ∧ i.2.1.n = j ∧ L' = row i.2.1 8 (frl ((List.range j).map fr)) :: L) ?_ (by unfold KBig at hK; simp; omega) ⟨0, rfl, by omega, by simp, h4, by simp [frl]⟩
    rintro again ⟨i1, i2, i3⟩ L' ⟨j, hi3, hj, hi1, hi2, rfl⟩ ih
    dsimp only at hi3 hi1 hi2 ⊢
    subst hi3; subst hi1
    unfold cut_Frames_l0
    dsimp only
    refine Tri.ite ?_ ?_
    · intro hc
      have hj' : j < n := by simp at hc; omega
      have hjm : j * most ≤ 2000000 * 65536 := Nat.mul_le_mul (by omega) h3
      have hjm2 : (j + 1) * most ≤ 2000000 * 65536 := Nat.mul_le_mul (by omega) h3
      have e1 : IntKind.wrap .i64 ((j : Int) * (most : Int)) = ((j * most : Nat) : Int) := by rw [← Int.natCast_mul, w64 (by omega) (by omega)]
      have e2 : IntKind.wrap .i64 (IntKind.wrap .i64 ((j : Int) + 1) * (most : Int)) = (((j + 1) * most : Nat) : Int) := by
        rw [w64 (x := (j : Int) + 1) (by omega) (by omega), show (j : Int) + 1 = ((j + 1 : Nat) : Int) by omega, ← Int.natCast_mul, w64 (by omega) (by omega)]
      have e3 : IntKind.wrap .i64 ((n : Int) - 1) = ((n - 1 : Nat) : Int) := by rw [w64 (by omega) (by omega)]; omega
      rw [e1, e2, e3, ba_size]
      have e4 : (if (data.length : Int) < (((j + 1) * most : Nat) : Int) then (data.length : Int) else (((j + 1) * most : Nat) : Int)) = ((min ((j + 1) * most) data.length : Nat) : Int) := by split <;> omega
      rw [e4]
      have hle : j * most ≤ data.length := by
        by_cases h0 : j = 0
        · subst h0; simp
        · have h5 : j < (data.length + most - 1) / most := by rw [← hn] at hj'; unfold countF at hj'; omega
          have h6 : (j + 1) * most ≤ data.length + most - 1 := by
            have := Nat.mul_le_of_le_div most (j + 1) _ h5; exact this
          rw [Nat.add_mul] at h6; omega
      have hmm : (j + 1) * most = j * most + most := by rw [Nat.add_mul]; omega
      refine Tri.slStr (j * most) (min ((j + 1) * most) data.length) (by rfl) (by rfl) (by omega) (by rw [ba_size]; omega) ?_
      rw [ba_extract]
      have e5 : (data.drop (j * most)).take (min ((j + 1) * most) data.length - j * most) = (data.drop (j * most)).take most := by
        by_cases h7 : (j + 1) * most ≤ data.length
        · congr 1; omega
        · rw [List.take_of_length_le (by simp; omega), List.take_of_length_le (by simp; omega)]
      rw [e5]
      have e6 : Tapi_Frame.mk ((j : Int) == ((n - 1 : Nat) : Int)) ((if j = 0 then op else 0 : Nat) : Int) false (0 : Int) (0 : Int) (0 : Int) (0 : Int) (ba ((data.drop (j * most)).take most)) = (fr j).t := by rw [beqI]; rfl
      rw [e6]
      refine Tri.new fun b => Tri.pick 1 rfl ?_
      refine Tri.appS (new := frc (fr j)) (Rd.pts (o := 0) rfl (by simp [Fr.cells]) rfl) rfl rfl (by rw [hi2]; simp; omega) fun s' hs' => ?_
      refine Tri.pick 1 rfl (Tri.drop ?_)
      rw [w64 (by omega) (by omega), ← frl_snoc]
      refine ih _ _ ⟨j + 1, by simp, by omega, by simp, by rw [hs', hi2], ?_⟩ (by simp; omega)
      rw [List.range_succ, List.map_append]; rfl
    · intro hc
      have hj' : j = n := by simp at hc; omega
      subst hj'
      exact Tri.ret ⟨hi2, rfl⟩
  · rintro r L1 ⟨hr, rfl⟩
    rw [hcut]
    exact Tri.ret ⟨rfl, by simp [hr], rfl⟩
end Go.Proofs.YtjdnjlnfcbaokaaGreat

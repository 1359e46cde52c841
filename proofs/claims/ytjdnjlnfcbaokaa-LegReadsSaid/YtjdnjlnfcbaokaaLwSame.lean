/-
  LAWS, common: the same events? Own work.
-/
import Derived.Test.YtjdnjlnfcbaokaaLwCom
set_option linter.unusedVariables false
set_option linter.unusedSimpArgs false
set_option maxRecDepth 20000
namespace Go.Proofs.Ytjdnjlnfcbaokaa
open Go Go.Lg
variable {α β σ τ : Type} {ρ : Hp} {L M : As} {K : Nat}

theorem same_spec {s1 s2 : Sl} {e1 e2 : List Ev} (hK : KBig K) (hr1 : Rd ρ L s1 3 (evl e1)) (hn1 : s1.n = e1.length) (hr2 : Rd ρ L s2 3 (evl e2)) (hn2 : s2.n = e2.length) (hb : e1.length ≤ 1099511627776) :
    Tri ρ L (ref12_Same K s1 s2) (fun r L' => r = decide (e1 = e2) ∧ L' = L) := by
  unfold ref12_Same
  by_cases hl : e1.length = e2.length
  · have hd : ((s1.n : Int) != (s2.n : Int)) = false := by simp; omega
    rw [hd]
    simp only [Bool.false_eq_true, if_false]
    refine Tri.bndS (D := fun _ L' => e1 = e2 ∧ L' = L) ?_ ?_
    · refine Tri.loop (μ := fun (i : Int) => e1.length - i.toNat) (I := fun (i : Int) L' => ∃ j : Nat, i = j ∧ j ≤ e1.length ∧ e1.take j = e2.take j ∧ L' = L) ?_ (by unfold KBig at hK; simp; omega) ⟨0, rfl, by omega, by simp, rfl⟩
      rintro again i L' ⟨j, rfl, hj, ht, rfl⟩ ih
      unfold ref12_Same_l0
      rw [hn1]
      refine Tri.ite ?_ ?_
      · intro hc
        have c1 : j < e1.length := by simp at hc; omega
        have c2 : j < e2.length := by omega
        have ne : ∀ es : List Ev, j < es.length → evl es ≠ [] := fun es h e => by have e9 := congrArg List.length e; rw [evl_length, List.length_nil] at e9; omega
        refine Tri.drw (Tri.ixA j hr1 rfl (by omega) (ne _ c1) fun x20 h20 => ?_)
        refine Tri.ldG e1[j].t rfl (h20.cells hr1 (by omega) (evl_get e1 j c1) rfl) ?_
        refine Tri.ixA j hr2 rfl (by omega) (ne _ c2) fun x22 h22 => ?_
        refine Tri.ldG e2[j].t rfl (h22.cells hr2 (by omega) (evl_get e2 j c2) rfl) ?_
        rw [ev_eqb]
        by_cases he : e1[j] = e2[j]
        · rw [decide_eq_true he]
          simp only [Bool.not_true, Bool.false_eq_true, if_false]
          refine Tri.lt ?_
          rw [w64 (by omega) (by omega)]
          refine ih _ _ ⟨j + 1, by omega, by omega, ?_, rfl⟩ (by omega)
          rw [List.take_add_one, List.take_add_one, ht, List.getElem?_eq_getElem c1, List.getElem?_eq_getElem c2, he]
        · rw [decide_eq_false he]
          simp only [Bool.not_false, if_true]
          refine Tri.inr (Tri.ret ⟨?_, rfl⟩)
          rw [eq_comm, decide_eq_false]
          rintro rfl; exact he rfl
      · intro hc
        have c1 : j = e1.length := by simp at hc; omega
        refine Tri.ret ⟨?_, rfl⟩
        rw [c1, List.take_length, hl, List.take_length] at ht
        exact ht
    · rintro _ _ ⟨he, rfl⟩
      exact Tri.ret ⟨(decide_eq_true he).symm, rfl⟩
  · have hd : ((s1.n : Int) != (s2.n : Int)) = true := by simp; omega
    rw [hd]
    simp only [if_true]
    refine Tri.ret ⟨?_, rfl⟩
    rw [eq_comm, decide_eq_false]
    rintro rfl; exact hl rfl
end Go.Proofs.Ytjdnjlnfcbaokaa

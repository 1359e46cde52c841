/-
  LAWS, common: rows of strings, of bytes, of events. Own work.
-/
import Derived.Test.YtjdnjlnfcbaokaaGreatJn
import Derived.Test.YtjdnjlnfcbaokaaGreatSp17
set_option linter.unusedVariables false
set_option linter.unusedSimpArgs false
set_option maxRecDepth 20000
namespace Go.Proofs.YtjdnjlnfcbaokaaGreat
open Go Go.Lg
variable {α β σ τ : Type} {ρ : Hp} {L M : As} {K : Nat}

theorem wf64 {n : Int} (h : (Lit.int .i64 n).wf = true) : -9223372036854775808 ≤ n ∧ n ≤ 9223372036854775807 := by
  have h1 : IntKind.i64.min = -9223372036854775808 := by decide
  have h2 : IntKind.i64.max = 9223372036854775807 := by decide
  simp only [Lit.wf, Bool.and_eq_true, decide_eq_true_eq, h1, h2] at h
  exact h
/-- three bytes -/
theorem three {l : List Int} (hn : l.length = 3) (hw : ∀ x ∈ l, (Lit.int .u8 x).wf = true) : ∃ x y z : Nat, l = [(x : Int), (y : Int), (z : Int)] ∧ x < 256 ∧ y < 256 ∧ z < 256 := by
  obtain ⟨m, rfl, hm⟩ := u8s hw
  match m, hn with
  | [x, y, z], _ => exact ⟨x, y, z, rfl, hm x (by simp), hm y (by simp), hm z (by simp)⟩
def strC (s : ByteArray) : List Value := [.string s]
def strl (l : List ByteArray) : List Value := l.flatMap strC
theorem strl_length (l : List ByteArray) : (strl l).length = l.length := by
  induction l with
  | nil => rfl
  | cons e es ih => simp only [strl, List.flatMap_cons, List.length_append, List.length_cons] at ih ⊢; rw [ih]; simp [strC]; omega
theorem strl_get (l : List ByteArray) (j : Nat) (h : j < l.length) : (strl l)[j]? = some (.string l[j]) := by
  induction l generalizing j with
  | nil => simp at h
  | cons f fs ih =>
    have e : strl (f :: fs) = .string f :: strl fs := by simp [strl, strC]
    rw [e]
    cases j with
    | zero => rfl
    | succ j => simpa using ih j (by simpa using h)
def u8l (l : List Nat) : List Value := l.map fun (n : Nat) => .int .u8 (n : Int)
theorem u8l_get (l : List Nat) (j : Nat) (h : j < l.length) : (u8l l)[j]? = some (.int .u8 (l[j] : Int)) := by
  simp [u8l, List.getElem?_eq_getElem h]
theorem u8l_length (l : List Nat) : (u8l l).length = l.length := by simp [u8l]
theorem evl_get (es : List Ev) (j : Nat) (h : j < es.length) : ((evl es).drop (j * 3)).take 3 = evc es[j] := by
  induction es generalizing j with
  | nil => simp at h
  | cons f fs ih =>
    have e : evl (f :: fs) = evc f ++ evl fs := by simp [evl]
    rw [e]
    cases j with
    | zero => simp [evc]
    | succ j =>
      have e2 : (j + 1) * 3 = (evc f).length + j * 3 := by rw [evc_len]; omega
      rw [e2, List.drop_length_add_append]
      exact ih j (by simpa using h)
theorem cfgSplice (x : Tapi_Config) : ∀ cs : List Value, cs.length = 12 → splice cs 0 (Agg.cells x) = Agg.cells x := by
  intro cs hc
  unfold splice
  rw [List.take_zero, List.nil_append, List.drop_eq_nil_of_le (by rw [hc]; simp [Agg.cells]), List.append_nil]
theorem boolD (a b : Bool) : (a == b) = decide (a = b) := by cases a <;> cases b <;> rfl
theorem emptyRow {sz x : Nat} {m : G α} {C : α → As → Prop} (h : Tri ρ (row ⟨some ⟨x, 0, none⟩, 0, 0⟩ sz [] :: L) m C) : Tri ρ (pts x [] :: L) m C := Tri.rowClose (o := 0) rfl (by simp) (by simp) (Nat.le_refl _) rfl h
theorem evl_one (es : List Ev) : (evl es).all one = true := by
  rw [List.all_eq_true]
  intro v hv
  simp only [evl, List.mem_flatMap, evc, List.mem_cons, List.not_mem_nil, or_false] at hv
  obtain ⟨_, _, rfl | rfl | rfl⟩ := hv <;> rfl
theorem u8l_flat : ∀ t : List Nat, (t.map fun n : Nat => (n : Int)).flatMap (fun n : Int => [Value.int .u8 n]) = u8l t := fun t => by
  induction t with
  | nil => rfl
  | cons n t ih => simp only [u8l, List.map_cons, List.flatMap_cons] at ih ⊢; rw [ih]; rfl
end Go.Proofs.YtjdnjlnfcbaokaaGreat

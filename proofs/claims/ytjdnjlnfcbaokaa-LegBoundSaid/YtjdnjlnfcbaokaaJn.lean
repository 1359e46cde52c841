/-
  JOIN: what a caller's values read as (integers, bools, strings, arrays, slices of structs) for a spec ('Tri'), and a spec as what a call comes to. Own work.
-/
import Derived.Test.YtjdnjlnfcbaokaaLgRow
import Derived.Deep.Slices
import Derived.OpenShut
import Derived.Carry
set_option linter.unusedVariables false
set_option linter.unusedSimpArgs false
namespace Go.Lg
open Go Go.RowKit

/-! ### 1. A spec as a call -/
def hpOf (W : World) : Hp := fun b => W.heap[b]?
theorem hpOf_stands (W : World) : Stands [] (hpOf W) W := ⟨Hp.none, rfl, fun _ => .inl rfl, fun b o h => by simpa [Hp.or, Hp.none, hpOf] using h⟩
theorem Stands.old {L : As} {R : Hp} {w : World} (h : Stands L R w) {b : Nat} {o : Obj} (hb : R b = some o) : w.heap[b]? = some o := by
  obtain ⟨k, _, d, i⟩ := h
  exact i.right d b o hb
theorem Does.call {P : Program} {f : Nat} {args : List Value} {α : Type} {m : G α} {enc : α → Value} {W : World} {x : α} (hd : Does P f args m enc) (ht : Tri (hpOf W) [] m (fun r _ => r = x)) :
    Calls P f args.toArray W (fun e W' => e = .returned (enc x) ∧ Below W.heap.size W W') := by
  refine (hd W _ (ht W (hpOf W) (fun _ _ h => h) (hpOf_stands W))).mono ?_
  rintro e W' ⟨r, rfl, e2, L', rfl, hs⟩
  refine ⟨rfl, e2.os, e2.tape, e2.output, e2.size, fun k hk => ?_⟩
  have h1 : W.heap[k]? = some W.heap[k] := Array.getElem?_eq_getElem hk
  rw [h1]
  exact hs.old h1

/-! ### 2. What is read in the caller's memory -/
theorem cell_same {W w : World} {a : Addr} {v : Value} (h : ∀ (b : Nat) (o : Obj), W.heap[b]? = some o → w.heap[b]? = some o) (hc : W.cell? a = some v) : w.cell? a = some v := by
  cases hb : W.heap[a.block]? with
  | none => simp [World.cell?, hb] at hc
  | some o =>
    have := h _ _ hb
    simpa [World.cell?, hb, this] using hc
theorem rdN_same {W w : World} {a : Addr} {n i : Nat} {l : List Value} (h : ∀ (b : Nat) (o : Obj), W.heap[b]? = some o → w.heap[b]? = some o) (hr : rdN W a i n = some l) : rdN w a i n = some l := by
  obtain ⟨h1, h2⟩ := rdN_iff.1 hr
  refine rdN_iff.2 ⟨h1, fun j hj => ?_⟩
  have h3 := h2 j hj
  have h4 : l[j]? = some l[j] := List.getElem?_eq_getElem (by omega)
  rw [h4] at h3 ⊢
  exact cell_same h h3
theorem Rd.old {W : World} {L : As} {s : Sl} {sz : Nat} {l : List Value} (hr : rdSl W s sz = some l) : Rd (hpOf W) L s sz l := fun w R hR hs => by
  have h : ∀ (b : Nat) (o : Obj), W.heap[b]? = some o → w.heap[b]? = some o := fun b o hb => hs.old (hR b o hb)
  unfold rdSl at hr ⊢
  cases ha : s.a with
  | none => rw [ha] at hr; simpa using hr
  | some a => rw [ha] at hr; exact rdN_same h hr
section
variable {H : Type} {enc : TypeId × Value → H} {P : Program}
/-- a type whose values are told by τ -/
def ToldBy (P : Program) (e : TypeId) {τ : Type} (cells : τ → List Value) (ok : τ → Prop) : Prop :=
  ∀ {H : Type} (enc : TypeId × Value → H) (w : World) (base : Nat) (spare : Nat → Bool) (held : Bool) (fuel : Nat) (cs : List Value) (x : DataW H × List MemPlace), DataW.trod enc P w base spare held fuel e cs = some x → ∃ v : τ, cs = cells v ∧ ok v
theorem ToldBy.int {e : TypeId} {k : IntKind} (h : P.underlying e = some (.int k)) : ToldBy P e (fun n : Int => [.int k n]) (fun n => (Lit.int k n).wf = true) := fun enc w base spare held fuel cs x hx => by
  obtain ⟨n, rfl, _, hw⟩ := DataW.trod_int h hx
  exact ⟨n, rfl, hw⟩
theorem ToldBy.str {e : TypeId} (h : P.underlying e = some .string) : ToldBy P e (fun s : ByteArray => [.string s]) (fun s => s.size ≤ maxLen) := fun enc w base spare held fuel cs x hx => by
  obtain ⟨s, rfl, _, hw⟩ := DataW.trod_string h hx
  exact ⟨s, rfl, hw⟩
theorem list_of_get {τ : Type} (f : Nat → τ) (cells : τ → List Value) (sz n : Nat) (hsz : ∀ i, i < n → (cells (f i)).length = sz) : ((List.range n).map f).flatMap cells = (List.range n).flatMap fun i => cells (f i) := by
  rw [List.flatMap_map]
theorem flat_get {τ : Type} (cells : τ → List Value) (sz : Nat) : ∀ (l : List τ), (∀ x ∈ l, (cells x).length = sz) → ∀ (i j : Nat) (x : τ), l[i]? = some x → j < sz → (l.flatMap cells)[i * sz + j]? = (cells x)[j]?
  | [], _, i, j, x, h, _ => by simp at h
  | y :: l, hl, 0, j, x, h, hj => by
    simp only [List.getElem?_cons_zero, Option.some.injEq] at h
    subst h
    rw [List.flatMap_cons, Nat.zero_mul, Nat.zero_add, List.getElem?_append_left (by rw [hl y (by simp)]; exact hj)]
  | y :: l, hl, i + 1, j, x, h, hj => by
    have h1 := hl y (by simp)
    have ih := flat_get cells sz l (fun z hz => hl z (List.mem_cons_of_mem _ hz)) i j x (by simpa using h) hj
    rw [List.flatMap_cons, List.getElem?_append_right (by rw [h1, Nat.add_mul]; omega), h1]
    have e : (i + 1) * sz + j - sz = i * sz + j := by rw [Nat.add_mul]; omega
    rw [e, ih]
theorem flat_len {τ : Type} (cells : τ → List Value) (sz : Nat) : ∀ (l : List τ), (∀ x ∈ l, (cells x).length = sz) → (l.flatMap cells).length = l.length * sz
  | [], _ => by simp
  | y :: l, hl => by
    rw [List.flatMap_cons, List.length_append, hl y (by simp), flat_len cells sz l fun z hz => hl z (List.mem_cons_of_mem _ hz), List.length_cons, Nat.add_mul]; omega
/-- a slice that came in -/
theorem ToldBy.slice {t e : TypeId} {τ : Type} [Inhabited τ] {cells : τ → List Value} {ok : τ → Prop} {sz : Nat} (he : ToldBy P e cells ok) (ht : P.underlying t = some (.slice e)) (hc : P.cellsOf e = sz) {W : World} {a : Option Addr} {len cap : Nat} {d : DataW H} {p : List MemPlace}
    (hl : ∀ v, (cells v).length = sz) (h : DataW.Trod enc P W 0 (fun _ => true) true t (.slice a len cap) d p) :
    ∃ l : List τ, len = l.length ∧ len ≤ cap ∧ cap ≤ maxLen ∧ (∀ x ∈ l, ok x) ∧ rdSl W ⟨a, len, cap⟩ sz = some (l.flatMap cells) := by
  obtain ⟨fuel, hf⟩ := h
  have hf' : DataW.trod enc P W 0 (fun _ => true) true fuel t [.slice a len cap] = some (d, p) := hf
  rcases Deep.open_slice ht hf' with ⟨hcs, _⟩ | ⟨ad, len', cap', m, n, D, Pl, hcs, _, h1, h2, hm, _, hx⟩
  · simp only [List.cons.injEq, Value.slice.injEq, and_true] at hcs
    obtain ⟨rfl, rfl, rfl⟩ := hcs
    exact ⟨[], rfl, Nat.le_refl _, by simp [maxLen], by simp, rfl⟩
  · simp only [List.cons.injEq, Value.slice.injEq, and_true] at hcs
    obtain ⟨rfl, rfl, rfl⟩ := hcs
    simp only [if_true] at hm
    subst hm
    rw [hc] at hx
    obtain ⟨f, hf2⟩ := Deep.choose_lt (α := τ) (n := len) (p := fun i v => (∀ j, j < sz → W.cell? ((ad.add (i * sz)).add j) = (cells v)[j]?) ∧ ok v) (fun i hi => by
      obtain ⟨cs', h3, h4⟩ := hx i (by omega)
      obtain ⟨v, rfl, hv⟩ := he enc W 0 _ _ _ _ _ h4
      obtain ⟨_, h5, h6⟩ := World.cells?_some h3
      exact ⟨v, h6, hv⟩)
    refine ⟨(List.range len).map f, by simp, h1, h2, ?_, ?_⟩
    · intro x hx
      simp only [List.mem_map, List.mem_range] at hx
      obtain ⟨i, hi, rfl⟩ := hx
      exact (hf2 i hi).2
    · have hlen := flat_len cells sz ((List.range len).map f) (fun x _ => hl x)
      show rdN W ad 0 (len * sz) = _
      refine rdN_iff.2 ⟨by rw [hlen]; simp, fun j hj => ?_⟩
      have hsz : 0 < sz := Nat.pos_of_ne_zero fun e => by subst e; simp at hj
      have hdiv : j / sz < len := (Nat.div_lt_iff_lt_mul hsz).2 hj
      have hmod : j % sz < sz := Nat.mod_lt _ hsz
      have e : j = j / sz * sz + j % sz := by rw [Nat.mul_comm]; exact (Nat.div_add_mod j sz).symm
      have e1 := flat_get cells sz ((List.range len).map f) (fun x _ => hl x) (j / sz) (j % sz) (f (j / sz)) (by simp [hdiv]) hmod
      rw [← e] at e1
      rw [e1, Nat.zero_add, ← (hf2 _ hdiv).1 _ hmod, add_add, ← e]
/-- three numbers of one kind -/
theorem open_arr3 {t e : TypeId} {k : IntKind} (ht : P.underlying t = some (.array 3 e)) (he : P.underlying e = some (.int k)) (hc : P.cellsOf e = 1) (hct : P.cellsOf t = 3) {W : World} {r : Reach} {b0 : Nat} {v : Value} {d : DataW H} {p : List MemPlace}
    (hv : Value.okWide P W r b0 t v) (h : DataW.Trod enc P W 0 (fun _ => true) true t v d p) : ∃ x y z : Int, v = .agg #[.int k x, .int k y, .int k z] ∧ (Lit.int k x).wf = true ∧ (Lit.int k y).wf = true ∧ (Lit.int k z).wf = true := by
  simp only [Value.okWide, ht] at hv
  obtain ⟨cs, rfl, hs, _⟩ := hv
  obtain ⟨fuel, hf⟩ := h
  have hf' : DataW.trod enc P W 0 (fun _ => true) true fuel t cs.toList = some (d, p) := hf
  obtain ⟨xs, m, _, _, _, hxl, hx⟩ := DataW.trod_array ht hf'
  rw [hct] at hs
  rw [hc] at hx
  have key : ∀ i, i < 3 → ∃ n : Int, (cs.toList.drop i).take 1 = [.int k n] ∧ (Lit.int k n).wf = true := by
    intro i hi
    have h1 := hx i hi
    have h2 : xs[i]? = some xs[i] := List.getElem?_eq_getElem (by omega)
    rw [h2, Nat.mul_one] at h1
    obtain ⟨n, h3, _, h4⟩ := DataW.trod_int he h1
    exact ⟨n, h3, h4⟩
  obtain ⟨x, hx0, wx⟩ := key 0 (by omega)
  obtain ⟨y, hy0, wy⟩ := key 1 (by omega)
  obtain ⟨z, hz0, wz⟩ := key 2 (by omega)
  refine ⟨x, y, z, ?_, wx, wy, wz⟩
  obtain ⟨l⟩ := cs
  match l, hs with
  | [a, b, c], _ =>
    simp at hx0 hy0 hz0
    subst hx0; subst hy0; subst hz0; rfl
end
end Go.Lg

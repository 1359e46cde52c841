/-
  JOIN: what a caller's values read as (integers, bools, strings, arrays, slices of structs) for a spec ('Tri'), and a spec as what a call comes to. Own work.
-/
import Derived.Test.YtjdnjlnfcbaokaaGreatLgRow
import Derived.Deep.Slices
import Derived.OpenShut
import Derived.Carry
set_option linter.unusedVariables false
set_option linter.unusedSimpArgs false
namespace Go.Lg
open Go Go.RowKit

/-! ### 1. A spec as a call -/
def hpOf (W : World) : Hp := fun b => W.heap[b]?
theorem hpOf_stands (W : World) : Stands [] (hpOf W) W := ⟨Hp.none, rfl, fun _ => .inl rfl, fun b o h => by simpa [Hp.or, Hp.none, hpOf] using h⟩
theorem Stands.old {L : As} {R : Hp} {w : World} (h : Stands L R w) {b : Nat} {o : Obj} (hb : R b = some o) : w.heap[b]? = some o := by
  obtain ⟨k, _, d, i⟩ := h
  exact i.right d b o hb
theorem Does.call {P : Program} {f : Nat} {args : List Value} {α : Type} {m : G α} {enc : α → Value} {W : World} {x : α} (hd : Does P f args m enc) (ht : Tri (hpOf W) [] m (fun r _ => r = x)) :
    Calls P f args.toArray W (fun e W' => e = .returned (enc x) ∧ Below W.heap.size W W') := by
  refine (hd W _ (ht W (hpOf W) (fun _ _ h => h) (hpOf_stands W))).mono ?_
  rintro e W' ⟨r, rfl, e2, L', rfl, hs⟩
  refine ⟨rfl, e2.os, e2.tape, e2.output, e2.size, fun k hk => ?_⟩
  have h1 : W.heap[k]? = some W.heap[k] := Array.getElem?_eq_getElem hk
  rw [h1]
  exact hs.old h1

/-! ### 2. What is read in the caller's memory -/
theorem cell_same {W w : World} {a : Addr} {v : Value} (h : ∀ (b : Nat) (o : Obj), W.heap[b]? = some o → w.heap[b]? = some o) (hc : W.cell? a = some v) : w.cell? a = some v := by
  cases hb : W.heap[a.block]? with
  | none => simp [World.cell?, hb] at hc
  | some o =>
    have := h _ _ hb
    simpa [World.cell?, hb, this] using hc
theorem rdN_same {W w : World} {a : Addr} {n i : Nat} {l : List Value} (h : ∀ (b : Nat) (o : Obj), W.heap[b]? = some o → w.heap[b]? = some o) (hr : rdN W a i n = some l) : rdN w a i n = some l := by
  obtain ⟨h1, h2⟩ := rdN_iff.1 hr
  refine rdN_iff.2 ⟨h1, fun j hj => ?_⟩
  have h3 := h2 j hj
  have h4 : l[j]? = some l[j] := List.getElem?_eq_getElem (by omega)
  rw [h4] at h3 ⊢
  exact cell_same h h3
theorem Rd.old {W : World} {L : As} {s : Sl} {sz : Nat} {l : List Value} (hr : rdSl W s sz = some l) : Rd (hpOf W) L s sz l := fun w R hR hs => by
  have h : ∀ (b : Nat) (o : Obj), W.heap[b]? = some o → w.heap[b]? = some o := fun b o hb => hs.old (hR b o hb)
  unfold rdSl at hr ⊢
  cases ha : s.a with
  | none => rw [ha] at hr; simpa using hr
  | some a => rw [ha] at hr; exact rdN_same h hr
section
variable {H : Type} {enc : TypeId × Value → H} {P : Program}
/-- a type whose values are told by τ -/
def ToldBy (P : Program) (e : TypeId) {τ : Type} (cells : τ → List Value) (ok : τ → Prop) : Prop :=
  ∀ {H : Type} (enc : TypeId × Value → H) (w : World) (base : Nat) (spare : Nat → Bool) (held : Bool) (fuel : Nat) (cs : List Value) (x : DataW H × List MemPlace), DataW.trod enc P w base spare held fuel e cs = some x → ∃ v : τ, cs = cells v ∧ ok v
theorem ToldBy.int {e : TypeId} {k : IntKind} (h : P.underlying e = some (.int k)) : ToldBy P e (fun n : Int => [.int k n]) (fun n => (Lit.int k n).wf = true) := fun enc w base spare held fuel cs x hx => by
  obtain ⟨n, rfl, _, hw⟩ := DataW.trod_int h hx
  exact ⟨n, rfl, hw⟩
theorem ToldBy.str {e : TypeId} (h : P.underlying e = some .string) : ToldBy P e (fun s : ByteArray => [.string s]) (fun s => s.size ≤ maxLen) := fun enc w base spare held fuel cs x hx => by
  obtain ⟨s, rfl, _, hw⟩ := DataW.trod_string h hx
  exact ⟨s, rfl, hw⟩
theorem list_of_get {τ : Type} (f : Nat → τ) (cells : τ → List Value) (sz n : Nat) (hsz : ∀ i, i < n → (cells (f i)).length = sz) : ((List.range n).map f).flatMap cells = (List.range n).flatMap fun i => cells (f i) := by
  rw [List.flatMap_map]
theorem flat_get {τ : Type} (cells : τ → List Value) (sz : Nat) : ∀ (l : List τ), (∀ x ∈ l, (cells x).length = sz) → ∀ (i j : Nat) (x : τ), l[i]? = some x → j < sz → (l.flatMap cells)[i * sz + j]? = (cells x)[j]?
  | [], _, i, j, x, h, _ => by simp at h
  | y :: l, hl, 0, j, x, h, hj => by
    simp only [List.getElem?_cons_zero, Option.some.injEq] at h
    subst h
    rw [List.flatMap_cons, Nat.zero_mul, Nat.zero_add, List.getElem?_append_left (by rw [hl y (by simp)]; exact hj)]
  | y :: l, hl, i + 1, j, x, h, hj => by
    have h1 := hl y (by simp)
    have ih := flat_get cells sz l (fun z hz => hl z (List.mem_cons_of_mem _ hz)) i j x (by simpa using h) hj
    rw [List.flatMap_cons, List.getElem?_append_right (by rw [h1, Nat.add_mul]; omega), h1]
    have e : (i + 1) * sz + j - sz = i * sz + j := by rw [Nat.add_mul]; omega
    rw [e, ih]
theorem flat_len {τ : Type} (cells : τ → List Value) (sz : Nat) : ∀ (l : List τ), (∀ x ∈ l, (cells x).length = sz) → (l.flatMap cells).length = l.length * sz
  | [], _ => by simp
  | y :: l, hl => by
    rw [List.flatMap_cons, List.length_append, hl y (by simp), flat_len cells sz l fun z hz => hl z (List.mem_cons_of_mem _ hz), List.length_cons, Nat.add_mul]; omega
/-- a slice that came in -/
theorem ToldBy.slice {t e : TypeId} {τ : Type} [Inhabited τ] {cells : τ → List Value} {ok : τ → Prop} {sz : Nat} (he : ToldBy P e cells ok) (ht : P.underlying t = some (.slice e)) (hc : P.cellsOf e = sz) {W : World} {a : Option Addr} {len cap : Nat} {d : DataW H} {p : List MemPlace}
    (hl : ∀ v, (cells v).length = sz) (h : DataW.Trod enc P W 0 (fun _ => true) true t (.slice a len cap) d p) :
    ∃ l : List τ, len = l.length ∧ len ≤ cap ∧ cap ≤ maxLen ∧ (∀ x ∈ l, ok x) ∧ rdSl W ⟨a, len, cap⟩ sz = some (l.flatMap cells) := by
  obtain ⟨fuel, hf⟩ := h
  have hf' : DataW.trod enc P W 0 (fun _ => true) true fuel t [.slice a len cap] = some (d, p) := hf
  rcases Deep.open_slice ht hf' with ⟨hcs, _⟩ | ⟨ad, len', cap', m, n, D, Pl, hcs, _, h1, h2, hm, _, hx⟩
  · simp only [List.cons.injEq, Value.slice.injEq, and_true] at hcs
    obtain ⟨rfl, rfl, rfl⟩ := hcs
    exact ⟨[], rfl, Nat.le_refl _, by simp [maxLen], by simp, rfl⟩
  · simp only [List.cons.injEq, Value.slice.injEq, and_true] at hcs
    obtain ⟨rfl, rfl, rfl⟩ := hcs
    simp only [if_true] at hm
    subst hm
    rw [hc] at hx
    obtain ⟨f, hf2⟩ := Deep.choose_lt (α := τ) (n := len) (p := fun i v => (∀ j, j < sz → W.cell? ((ad.add (i * sz)).add j) = (cells v)[j]?) ∧ ok v) (fun i hi => by
      obtain ⟨cs', h3, h4⟩ := hx i (by omega)
      obtain ⟨v, rfl, hv⟩ := he enc W 0 _ _ _ _ _ h4
      obtain ⟨_, h5, h6⟩ := World.cells?_some h3
      exact ⟨v, h6, hv⟩)
    refine ⟨(List.range len).map f, by simp, h1, h2, ?_, ?_⟩
    · intro x hx
      simp only [List.mem_map, List.mem_range] at hx
      obtain ⟨i, hi, rfl⟩ := hx
      exact (hf2 i hi).2
    · have hlen := flat_len cells sz ((List.range len).map f) (fun x _ => hl x)
      show rdN W ad 0 (len * sz) = _
      refine rdN_iff.2 ⟨by rw [hlen]; simp, fun j hj => ?_⟩
      have hsz : 0 < sz := Nat.pos_of_ne_zero fun e => by subst e; simp at hj
      have hdiv : j / sz < len := (Nat.div_lt_iff_lt_mul hsz).2 hj
      have hmod : j % sz < sz := Nat.mod_lt _ hsz
      have e : j = j / sz * sz + j % sz := by rw [Nat.mul_comm]; exact (Nat.div_add_mod j sz).symm
      have e1 := flat_get cells sz ((List.range len).map f) (fun x _ => hl x) (j / sz) (j % sz) (f (j / sz)) (by simp [hdiv]) hmod
      rw [← e] at e1
      rw [e1, Nat.zero_add, ← (hf2 _ hdiv).1 _ hmod, add_add, ← e]
/-- numbers of one kind in an array -/
theorem open_arrN {t e : TypeId} {n : Nat} {k : IntKind} (ht : P.underlying t = some (.array n e)) (he : P.underlying e = some (.int k)) (hc : P.cellsOf e = 1) (hct : P.cellsOf t = n) {W : World} {r : Reach} {b0 : Nat} {v : Value} {d : DataW H} {p : List MemPlace}
    (hv : Value.okWide P W r b0 t v) (h : DataW.Trod enc P W 0 (fun _ => true) true t v d p) : ∃ l : List Int, l.length = n ∧ (∀ x ∈ l, (Lit.int k x).wf = true) ∧ v = .agg (l.map (Value.int k)).toArray := by
  simp only [Value.okWide, ht] at hv
  obtain ⟨cs, rfl, hs, _⟩ := hv
  obtain ⟨fuel, hf⟩ := h
  have hf' : DataW.trod enc P W 0 (fun _ => true) true fuel t cs.toList = some (d, p) := hf
  obtain ⟨xs, m, _, _, _, hxl, hx⟩ := DataW.trod_array ht hf'
  rw [hct] at hs
  rw [hc] at hx
  have key : ∀ i, i < n → ∃ x : Int, (cs.toList.drop i).take 1 = [.int k x] ∧ (Lit.int k x).wf = true := by
    intro i hi
    have h1 := hx i hi
    have h2 : xs[i]? = some xs[i] := List.getElem?_eq_getElem (by omega)
    rw [h2, Nat.mul_one] at h1
    obtain ⟨x, h3, _, h4⟩ := DataW.trod_int he h1
    exact ⟨x, h3, h4⟩
  obtain ⟨f, hf2⟩ := Deep.choose_lt (α := Int) key
  refine ⟨(List.range n).map f, by simp, ?_, ?_⟩
  · intro x hx
    simp only [List.mem_map, List.mem_range] at hx
    obtain ⟨i, hi, rfl⟩ := hx
    exact (hf2 i hi).2
  · congr 1
    apply Array.ext'
    simp only [List.map_map]
    apply List.ext_getElem?
    intro i
    by_cases hi : i < n
    · have h1 := (hf2 i hi).1
      have h3 : cs.toList[i]? = some (.int k (f i)) := by
        have h4 : ((cs.toList.drop i).take 1)[0]? = some (.int k (f i)) := by rw [h1]; rfl
        rw [List.getElem?_take, if_pos (by omega), List.getElem?_drop] at h4
        simpa using h4
      rw [h3]; simp [hi]
    · rw [List.getElem?_eq_none (by simp; omega), List.getElem?_eq_none (by simp; omega)]
/-- a string -/
theorem open_str {t : TypeId} (ht : P.underlying t = some .string) {W : World} {r : Reach} {b0 : Nat} {v : Value} {d : DataW H} {p : List MemPlace}
    (hv : Value.okWide P W r b0 t v) (h : DataW.Trod enc P W 0 (fun _ => true) true t v d p) : ∃ s : ByteArray, v = .string s ∧ s.size ≤ maxLen := by
  simp only [Value.okWide, ht, Cell.okWide] at hv
  obtain ⟨fuel, hf⟩ := h
  cases v <;> simp_all [Cell.ok]
  obtain ⟨s, h1, _, h2⟩ := DataW.trod_string ht hf
  simp [Value.cells] at h1
  subst h1; exact h2
end
theorem i64n {n : Int} (h : (Lit.int .i64 n).wf = true) : -9223372036854775808 ≤ n ∧ n ≤ 9223372036854775807 := by
  have h1 : IntKind.i64.min = -9223372036854775808 := by decide
  have h2 : IntKind.i64.max = 9223372036854775807 := by decide
  simp only [Lit.wf, Bool.and_eq_true, decide_eq_true_eq, h1, h2] at h
  exact h
theorem u32n {n : Int} (h : (Lit.int .u32 n).wf = true) : ∃ m : Nat, n = (m : Int) ∧ m < 4294967296 := by
  have h1 : IntKind.u32.min = 0 := by decide
  have h2 : IntKind.u32.max = 4294967295 := by decide
  simp only [Lit.wf, Bool.and_eq_true, decide_eq_true_eq, h1, h2] at h
  exact ⟨n.toNat, by omega, by omega⟩
theorem u16n {n : Int} (h : (Lit.int .u16 n).wf = true) : ∃ m : Nat, n = (m : Int) ∧ m < 65536 := by
  have h1 : IntKind.u16.min = 0 := by decide
  have h2 : IntKind.u16.max = 65535 := by decide
  simp only [Lit.wf, Bool.and_eq_true, decide_eq_true_eq, h1, h2] at h
  exact ⟨n.toNat, by omega, by omega⟩
theorem u8n {n : Int} (h : (Lit.int .u8 n).wf = true) : ∃ m : Nat, n = (m : Int) ∧ m < 256 := by
  have h1 : IntKind.u8.min = 0 := by decide
  have h2 : IntKind.u8.max = 255 := by decide
  simp only [Lit.wf, Bool.and_eq_true, decide_eq_true_eq, h1, h2] at h
  exact ⟨n.toNat, by omega, by omega⟩
theorem u8s : ∀ {l : List Int}, (∀ x ∈ l, (Lit.int .u8 x).wf = true) → ∃ m : List Nat, l = m.map (fun n : Nat => (n : Int)) ∧ ∀ n ∈ m, n < 256
  | [], _ => ⟨[], rfl, by simp⟩
  | x :: l, h => by
    obtain ⟨n, rfl, hn⟩ := u8n (h x (by simp))
    obtain ⟨m, rfl, hm⟩ := u8s (l := l) fun y hy => h y (List.mem_cons_of_mem _ hy)
    exact ⟨n :: m, rfl, by intro y hy; simp only [List.mem_cons] at hy; rcases hy with rfl | hy; exact hn; exact hm y hy⟩
theorem u32s : ∀ {l : List Int}, (∀ x ∈ l, (Lit.int .u32 x).wf = true) → ∃ m : List Nat, l = m.map (fun n : Nat => (n : Int)) ∧ ∀ n ∈ m, n < 4294967296
  | [], _ => ⟨[], rfl, by simp⟩
  | x :: l, h => by
    obtain ⟨n, rfl, hn⟩ := u32n (h x (by simp))
    obtain ⟨m, rfl, hm⟩ := u32s (l := l) fun y hy => h y (List.mem_cons_of_mem _ hy)
    exact ⟨n :: m, rfl, by intro y hy; simp only [List.mem_cons] at hy; rcases hy with rfl | hy; exact hn; exact hm y hy⟩
end Go.Lg

/-
  THE LAWS OF THE OPERATIONS THAT READ OR WRITE MEMORY, AND OF CALLS. Own work.
-/
import Derived.Test.YtjdnjlnfcbaokaaGreatLgOps
set_option linter.unusedVariables false
set_option linter.unusedSimpArgs false
namespace Go.Lg
open Go

section
variable {P : Program} {n : Nat} {ρ τ : Type} {ops : Array Oper} {rest : List Oper} {env : Env} {m : G ρ} {K : Post ρ}
  {d : Option Tmp} {ty : TypeId} {pos : String} {af : Array Edge} {g : Option (Nat × Bool)} {x y z : Operand} {T T' : TypeId}

/-! ### 1. What the words for memory come to in the model -/
theorem run_ld {w : World} {a : Addr} {v : Value} (h : w.cell? a = some v) : (load a).run P w = .ok v w := by simp [h]
theorem rdN_run {a : Addr} : ∀ {k i : Nat} {w : World} {l : List Value} (acc : Array Value), rdN w a i k = some l → (loadCellsFrom a i k acc).run P w = .ok (acc ++ l.toArray) w
  | 0, i, w, l, acc, h => by simp [rdN] at h; subst h; simp [loadCellsFrom]
  | k + 1, i, w, l, acc, h => by
    simp only [rdN] at h
    split at h
    · rename_i v l' hv hl
      simp at h; subst h
      simp only [loadCellsFrom, Sem.run_bind, run_ld hv, Result.andThen_ok, rdN_run (acc.push v) hl]
      congr 1
      simp
    · simp at h
theorem rdN_load {a : Addr} {k : Nat} {w : World} {l : List Value} (h : rdN w a 0 k = some l) : (loadCells a k).run P w = .ok l.toArray w := by
  have := rdN_run (P := P) #[] h
  simpa [loadCells] using this
theorem rdN_length {a : Addr} : ∀ {k i : Nat} {w : World} {l : List Value}, rdN w a i k = some l → l.length = k
  | 0, i, w, l, h => by simp [rdN] at h; subst h; rfl
  | k + 1, i, w, l, h => by
    simp only [rdN] at h
    split at h
    · rename_i v l' hv hl
      simp at h; subst h
      simp [rdN_length hl]
    · simp at h
theorem run_store {w : World} {a : Addr} {v : Value} (h1 : one v = true) (h2 : (w.cell? a).isSome = true) (h3 : w.frozen? a = false) : (store a v).run P w = .ok () (w.setCell a v) := by
  obtain ⟨u, hu⟩ := Option.isSome_iff_exists.1 h2
  cases v <;> first | (simp [one] at h1; done) | simp [store, Sem.run, hu, h3]
theorem stN_run {a : Addr} : ∀ {l : List Value} {i : Nat} {w w1 : World}, stN a i l w = some w1 → (storeCells a l i).run P w = .ok () w1
  | [], i, w, w1, h => by simp [stN] at h; subst h; simp [storeCells]
  | v :: r, i, w, w1, h => by
    simp only [stN] at h
    split at h
    · rename_i hc
      simp only [storeCells, Sem.run_bind, run_store hc.1 hc.2.1 hc.2.2, Result.andThen_ok, stN_run h]
    · simp at h

/-! ### 2. Two kinds of steps: what only reads, and what changes memory -/
/-- It yields a value and leaves the world alone; in every world that is alike in F it yields the same. -/
def Lt (P : Program) (env : Env) (o : Oper) (m : G ρ) (F : World → World → Prop) (J : Value → G ρ → Prop) : Prop :=
  ∀ w Q, m.run w Q → ∃ v m', F w w ∧ (∀ u, F w u → RanE P env o u v) ∧ m'.run w Q ∧ J v m'
def Hv (P : Program) (env : Env) (o : Oper) (m : G ρ) (J : Value → G ρ → Prop) : Prop :=
  ∀ w Q, m.run w Q → RanR P env o w (fun v w1 => ∃ m', m'.run w1 Q ∧ J v m')
theorem RefL.li {op : Op} {F : World → World → Prop} (hw : Want ops env g = some true) (hd : inB n d = true) (h : Lt P env ⟨d, op, ty, pos, af, g⟩ m F (fun v m' => RefL P n ops rest (env.put d v) m' K)) : RefL P n ops (⟨d, op, ty, pos, af, g⟩ :: rest) env m K := fun w Q hm a hs => by
  obtain ⟨v, m', hF, h1, h2, h3⟩ := h w Q hm
  exact wpList_ran (R := fun v' w' => v' = v ∧ w' = w) hs hw hd ((h1 w hF).ranR ⟨rfl, rfl⟩) (fun v' u' ⟨e1, e2⟩ a' hs' => by subst e1; subst e2; exact h3 _ Q h2 a' hs')
theorem RefL.hv {op : Op} (hw : Want ops env g = some true) (hd : inB n d = true) (h : Hv P env ⟨d, op, ty, pos, af, g⟩ m (fun v m' => RefL P n ops rest (env.put d v) m' K)) : RefL P n ops (⟨d, op, ty, pos, af, g⟩ :: rest) env m K := fun w Q hm a hs =>
  wpList_ran hs hw hd (h w Q hm) (fun v u' ⟨m', h2, h3⟩ a' hs' => h3 u' Q h2 a' hs')
/-- nothing is read -/
def any : World → World → Prop := fun _ _ => True
/-- n cells from a on read the same -/
def like (a : Addr) (k : Nat) : World → World → Prop := fun w u => rdN u a 0 k = rdN w a 0 k
def likeS (s : Sl) (sz : Nat) : World → World → Prop := fun w u => rdSl u s sz = rdSl w s sz
theorem like_cell {a : Addr} {w u : World} (h : like a 1 w u) {v : Value} (hv : w.cell? a = some v) : u.cell? a = some v := by
  unfold like at h
  have e : a.add 0 = a := by simp [Addr.add]
  simp only [rdN, e, hv] at h
  cases hu : u.cell? a with
  | none => simp [hu] at h
  | some v' => simp [hu] at h; rw [h]
section
variable {J : Value → G ρ → Prop} {a : Addr}
theorem RanE.load1 {u : World} {v : Value} (hT : ∀ w, (isAgg T).run P w = .ok false w) (hx : env.ev x = some (.pointer (some a))) (hc : u.cell? a = some v) : RanE P env ⟨d, .load T x, ty, pos, af, g⟩ u v := fun ρ h => by
  simp [execOp, h _ _ hx, Instr.loadAt, Instr.sureAddr, loadVar, hT, hc]
theorem RanE.loadN {u : World} {l : List Value} {k : Nat} (hT : ∀ w, (isAgg T).run P w = .ok true w) (hs : ∀ w, (sizeOf T).run P w = .ok k w) (hx : env.ev x = some (.pointer (some a))) (hc : rdN u a 0 k = some l) : RanE P env ⟨d, .load T x, ty, pos, af, g⟩ u (.agg l.toArray) := fun ρ h => by
  simp [execOp, h _ _ hx, Instr.loadAt, Instr.sureAddr, loadVar, hT, hs, rdN_load hc]
theorem Lt.ldV {f : Value → G ρ} (hT : ∀ w, (isAgg T).run P w = .ok false w) (hx : env.ev x = some (.pointer (some a))) (h : ∀ v, J v (f v)) : Lt P env ⟨d, .load T x, ty, pos, af, g⟩ (Lg.ldV a f) (like a 1) J := fun w Q ⟨v, e, hm⟩ =>
  ⟨v, f v, rfl, fun u hu => RanE.load1 hT hx (like_cell hu e), hm, h v⟩
theorem Lt.ldI {k : IntKind} {f : Int → G ρ} (hT : ∀ w, (isAgg T).run P w = .ok false w) (hx : env.ev x = some (.pointer (some a))) (h : ∀ i, J (.int k i) (f i)) : Lt P env ⟨d, .load T x, ty, pos, af, g⟩ (Lg.ldI k a f) (like a 1) J := fun w Q ⟨v, e, hm⟩ =>
  ⟨_, f v, rfl, fun u hu => RanE.load1 hT hx (like_cell hu e), hm, h v⟩
theorem Lt.ldB {f : Bool → G ρ} (hT : ∀ w, (isAgg T).run P w = .ok false w) (hx : env.ev x = some (.pointer (some a))) (h : ∀ i, J (.bool i) (f i)) : Lt P env ⟨d, .load T x, ty, pos, af, g⟩ (Lg.ldB a f) (like a 1) J := fun w Q ⟨v, e, hm⟩ =>
  ⟨_, f v, rfl, fun u hu => RanE.load1 hT hx (like_cell hu e), hm, h v⟩
theorem Lt.ldS {f : ByteArray → G ρ} (hT : ∀ w, (isAgg T).run P w = .ok false w) (hx : env.ev x = some (.pointer (some a))) (h : ∀ i, J (.string i) (f i)) : Lt P env ⟨d, .load T x, ty, pos, af, g⟩ (Lg.ldS a f) (like a 1) J := fun w Q ⟨v, e, hm⟩ =>
  ⟨_, f v, rfl, fun u hu => RanE.load1 hT hx (like_cell hu e), hm, h v⟩
theorem Lt.ldP {f : Option Addr → G ρ} (hT : ∀ w, (isAgg T).run P w = .ok false w) (hx : env.ev x = some (.pointer (some a))) (h : ∀ i, J (.pointer i) (f i)) : Lt P env ⟨d, .load T x, ty, pos, af, g⟩ (Lg.ldP a f) (like a 1) J := fun w Q ⟨v, e, hm⟩ =>
  ⟨_, f v, rfl, fun u hu => RanE.load1 hT hx (like_cell hu e), hm, h v⟩
theorem Lt.ldSl {f : Sl → G ρ} (hT : ∀ w, (isAgg T).run P w = .ok false w) (hx : env.ev x = some (.pointer (some a))) (h : ∀ i : Sl, J (.slice i.a i.n i.c) (f i)) : Lt P env ⟨d, .load T x, ty, pos, af, g⟩ (Lg.ldSl a f) (like a 1) J := fun w Q ⟨v, e, hm⟩ =>
  ⟨_, f v, rfl, fun u hu => RanE.load1 hT hx (like_cell hu e), hm, h v⟩
theorem Lt.ldG [Agg τ] {f : τ → G ρ} (hT : ∀ w, (isAgg T).run P w = .ok true w) (hz : ∀ w, (sizeOf T).run P w = .ok (Agg.size τ) w) (hx : env.ev x = some (.pointer (some a))) (h : ∀ i : τ, J (.agg (Agg.cells i).toArray) (f i)) : Lt P env ⟨d, .load T x, ty, pos, af, g⟩ (Lg.ldG a f) (like a (Agg.size τ)) J := fun w Q ⟨v, e, hm⟩ =>
  ⟨_, f v, rfl, fun u hu => RanE.loadN hT hz hx (hu.trans e), hm, h v⟩
theorem Lt.nn {p : Option Addr} {f : Addr → G ρ} (hx : env.ev x = some (.pointer p)) (h : ∀ a, J (.pointer (some a)) (f a)) : Lt P env ⟨d, .nilCheck x, ty, pos, af, g⟩ (Lg.nn p f) any J := fun w Q ⟨a, e, hm⟩ => by
  subst e; exact ⟨_, f a, trivial, fun u _ => RanP.nilCheck hx u, hm, h a⟩
end

/-! ### 3. New memory, stores -/
section
variable {J : Value → G ρ → Prop}
theorem Hv.st {a : Addr} {v : Value} {f : G ρ} {k : Nat} (hz : ∀ w, (sizeOf T).run P w = .ok k w) (hx : env.ev x = some (.pointer (some a))) (hy : env.ev y = some v) (hk : v.cells.size = k) (h : J undef f) : Hv P env ⟨d, .store T x y, ty, pos, af, g⟩ (Lg.st a v f) J := fun w Q ⟨w1, h1, hm⟩ ρ hρ => by
  right; left
  refine ⟨w1, ?_, f, hm, h⟩
  simp [execOp, hρ _ _ hx, hρ _ _ hy, Instr.storeAt, Instr.sureAddr, storeVar, hz, hk, stN_run h1]
theorem Hv.newZ {z0 : Value} {cs : List Value} {f : Addr → G ρ} (hz : ∀ w, (zeroValue T).run P w = .ok z0 w) (hc : z0.cells = cs.toArray) (h : ∀ a, J (.pointer (some a)) (f a)) : Hv P env ⟨d, .alloc T, ty, pos, af, g⟩ (Lg.new cs T f) J := fun w Q hm ρ hρ =>
  .inl ⟨.pointer (some ⟨w.heap.size, 0, none⟩), w.alloc (.cells cs.toArray T), by simp [execOp, Instr.alloc, hz, newVar, newRow, hc], f _, hm, h _⟩
theorem Hv.box {v : Value} {cs : List Value} {f : Addr → G ρ} (hx : env.ev x = some v) (hc : v.cells = cs.toArray) (h : ∀ a, J (.pointer (some a)) (f a)) : Hv P env ⟨d, .box T x, ty, pos, af, g⟩ (Lg.new cs T f) J := fun w Q hm ρ hρ =>
  .inl ⟨.pointer (some ⟨w.heap.size, 0, none⟩), w.alloc (.cells cs.toArray T), by simp [execOp, Instr.box, hρ _ _ hx, newVar, newRow, hc], f _, hm, h _⟩
theorem Hv.buildSlice {l : List (Nat × Operand)} {vs : List (Nat × Value)} {len : Nat} {e : TypeId} {cs : List Value} {f : Addr → G ρ} (hl : env.evParts l = some vs) (hb : ∀ w, (Instr.buildSlice T len vs.toArray).run P w = .ok (.slice (some ⟨w.heap.size, 0, none⟩) len len) (w.alloc (.cells cs.toArray e)))
    (h : ∀ a, J (.slice (some a) len len) (f a)) : Hv P env ⟨d, .buildSlice T len l.toArray, ty, pos, af, g⟩ (Lg.new cs e f) J := fun w Q hm ρ hρ =>
  .inl ⟨.slice (some ⟨w.heap.size, 0, none⟩) len len, w.alloc (.cells cs.toArray e), by simp only [execOp, List.map_toArray, Env.evParts_map hρ hl, Sem.run_bind, hb, Result.andThen_ok, Sem.run_pure], f _, hm, h _⟩

/-! ### 4. Places in slices and arrays; slices of them -/
theorem Lt.ixA {s : Sl} {i : Int} {k : IntKind} {e : TypeId} {sz : Nat} {f : Addr → G ρ} (hT : P.underlying T = some (.slice e)) (hz : ∀ w, (sizeOf e).run P w = .ok sz w) (hx : env.ev x = some (.slice s.a s.n s.c)) (hy : env.ev y = some (.int k i)) (h : ∀ a, J (.pointer (some a)) (f a)) : Lt P env ⟨d, .indexAddr T x y, ty, pos, af, g⟩ (Lg.ixA s i sz f) any J := fun w Q ⟨ad, e1, hi, hm⟩ =>
  ⟨.pointer (some (ad.add (i.toNat * sz))), f _, trivial, fun u _ ρ hρ => by simp [execOp, hρ _ _ hx, hρ _ _ hy, Instr.indexAt, asIntOf, run_underlying hT, hz, e1, hi.1, hi.2], hm, h _⟩
theorem RanP.ixArr {a : Addr} {i : Int} {k : IntKind} {e : TypeId} {sz len : Nat} (hi : 0 ≤ i ∧ i < (len : Int)) (hT : P.underlying T = some (.array len e)) (hz : ∀ w, (sizeOf e).run P w = .ok sz w) (hx : env.ev x = some (.pointer (some a))) (hy : env.ev y = some (.int k i)) : RanP P env ⟨d, .indexAddr T x y, ty, pos, af, g⟩ (.pointer (some (a.add (i.toNat * sz)))) := fun u ρ hρ => by
  simp [execOp, hρ _ _ hx, hρ _ _ hy, Instr.indexAt, asIntOf, run_underlying hT, hz, Instr.sureAddr, hi.1, hi.2]
def optI (k : IntKind) : Option Int → Option Value
  | none => none
  | some i => some (.int k i)
def Env.evO (env : Env) : Option Operand → Option (Option Value)
  | none => some none
  | some x => (env.ev x).map some
theorem Env.evO_map {env : Env} {ρ : Operand → Value} (h : Agrees env ρ) {o : Option Operand} {v : Option Value} (e : env.evO o = some v) : o.map ρ = v := by
  cases o with
  | none => simp [Env.evO] at e; simp [← e]
  | some x =>
    simp only [Env.evO, Option.map_eq_some_iff] at e
    obtain ⟨u, hu, rfl⟩ := e
    simp [h _ _ hu]
theorem run_bound {k : IntKind} {i : Int} {c : Nat} {code : BoundsCode} {w : World} (h : 0 ≤ i ∧ i ≤ (c : Int)) : (Instr.sliceBound (.int k i) c code).run P w = .ok i.toNat w := by
  simp [Instr.sliceBound, asIntOf, h.1, h.2]
theorem run_bounds {isS : Bool} {len cap : Nat} {lo hi mx : Option Int} {kl kh km : IntKind} {w : World} (hm : 0 ≤ mx.getD cap ∧ mx.getD cap ≤ cap) (hh : 0 ≤ hi.getD len ∧ hi.getD len ≤ mx.getD cap) (hl : 0 ≤ lo.getD 0 ∧ lo.getD 0 ≤ hi.getD len) (hmh : mx.isSome = true → hi.isSome = true) :
    (Instr.sliceBounds isS len cap (optI kl lo) (optI kh hi) (optI km mx)).run P w = .ok ((lo.getD 0).toNat, (hi.getD len).toNat, (mx.getD cap).toNat) w := by
  have e1 : ∀ {h : Int}, 0 ≤ h → ((h.toNat : Nat) : Int) = h := fun h => Int.toNat_of_nonneg h
  cases mx with
  | none =>
    simp only [Option.getD_none, Option.isSome_none] at *
    cases hi with
    | none =>
      simp only [Option.getD_none] at *
      cases lo with
      | none => simp [Instr.sliceBounds, optI]
      | some l => simp only [Option.getD_some] at hl; simp [Instr.sliceBounds, optI, run_bound (P := P) (w := w) (k := kl) hl]
    | some h =>
      simp only [Option.getD_some] at *
      have hh' : 0 ≤ h ∧ h ≤ (cap : Int) := hh
      cases lo with
      | none => simp [Instr.sliceBounds, optI, run_bound (P := P) (w := w) (k := kh) hh']
      | some l => simp only [Option.getD_some] at hl; simp [Instr.sliceBounds, optI, run_bound (P := P) (w := w) (k := kh) hh', run_bound (P := P) (w := w) (k := kl) (c := h.toNat) (show 0 ≤ l ∧ l ≤ (h.toNat : Int) by rw [e1 hh'.1]; exact hl)]
  | some m =>
    cases hi with
    | none => simp at hmh
    | some h =>
      simp only [Option.getD_some] at *
      have hh' : 0 ≤ h ∧ h ≤ ((m.toNat : Nat) : Int) := by rw [e1 hm.1]; exact hh
      cases lo with
      | none => simp [Instr.sliceBounds, optI, run_bound (P := P) (w := w) (k := km) hm, run_bound (P := P) (w := w) (k := kh) hh']
      | some l => simp only [Option.getD_some] at hl; simp [Instr.sliceBounds, optI, run_bound (P := P) (w := w) (k := km) hm, run_bound (P := P) (w := w) (k := kh) hh', run_bound (P := P) (w := w) (k := kl) (c := h.toNat) (show 0 ≤ l ∧ l ≤ (h.toNat : Int) by rw [e1 hh'.1]; exact hl)]
theorem Lt.slS {s : Sl} {lo hi mx : Option Int} {ol oh om : Option Operand} {kl kh km : IntKind} {e : TypeId} {sz : Nat} {f : Sl → G ρ} (hT : P.underlying T = some (.slice e)) (hz : ∀ w, (sizeOf e).run P w = .ok sz w) (hx : env.ev x = some (.slice s.a s.n s.c))
    (h1 : env.evO ol = some (optI kl lo)) (h2 : env.evO oh = some (optI kh hi)) (h3 : env.evO om = some (optI km mx)) (hmh : mx.isSome = true → hi.isSome = true) (h : ∀ t : Sl, J (.slice t.a t.n t.c) (f t)) : Lt P env ⟨d, .slice T x ol oh om, ty, pos, af, g⟩ (Lg.slS s lo hi mx sz f) any J := fun w Q ⟨hc, hm⟩ =>
  ⟨_, f _, trivial, fun u _ ρ hρ => by
    have hb := run_bounds (P := P) (isS := true) (len := s.n) (cap := s.c) (lo := lo) (hi := hi) (mx := mx) (kl := kl) (kh := kh) (km := km) (w := u) ⟨hc.1, hc.2.1⟩ ⟨hc.2.2.1, hc.2.2.2.1⟩ ⟨hc.2.2.2.2.1, hc.2.2.2.2.2⟩ hmh
    simp [execOp, hρ _ _ hx, Env.evO_map hρ h1, Env.evO_map hρ h2, Env.evO_map hρ h3, Instr.sliceAt, Instr.slice, run_underlying hT, hb, hz], hm, h _⟩
theorem Lt.slA {a : Addr} {len : Nat} {lo hi : Option Int} {ol oh : Option Operand} {kl kh : IntKind} {e : TypeId} {sz : Nat} {f : Sl → G ρ} (hT : P.underlying T = some (.array len e)) (hz : ∀ w, (sizeOf e).run P w = .ok sz w) (hx : env.ev x = some (.pointer (some a)))
    (h1 : env.evO ol = some (optI kl lo)) (h2 : env.evO oh = some (optI kh hi)) (h : ∀ t : Sl, J (.slice t.a t.n t.c) (f t)) : Lt P env ⟨d, .slice T x ol oh none, ty, pos, af, g⟩ (Lg.slA a len lo hi sz f) any J := fun w Q ⟨hc, hm⟩ =>
  ⟨_, f _, trivial, fun u _ ρ hρ => by
    have hb : (Instr.sliceBounds false len len (optI kl lo) (optI kh hi) none).run P u = .ok ((lo.getD 0).toNat, (hi.getD len).toNat, len) u := run_bounds (P := P) (isS := false) (len := len) (cap := len) (lo := lo) (hi := hi) (mx := none) (kl := kl) (kh := kh) (km := .i64) (w := u) ⟨by simp, by simp⟩ ⟨hc.1, by simpa using hc.2.1⟩ ⟨hc.2.2.1, hc.2.2.2⟩ (by simp)
    simp [execOp, hρ _ _ hx, Env.evO_map hρ h1, Env.evO_map hρ h2, Instr.sliceAt, Instr.sureAddr, run_underlying hT, hb, hz], hm, h _⟩
theorem Lt.slStr {s : ByteArray} {lo hi : Option Int} {ol oh : Option Operand} {kl kh : IntKind} {f : ByteArray → G ρ} (hT : P.underlying T = some .string) (hx : env.ev x = some (.string s))
    (h1 : env.evO ol = some (optI kl lo)) (h2 : env.evO oh = some (optI kh hi)) (h : ∀ t : ByteArray, J (.string t) (f t)) : Lt P env ⟨d, .slice T x ol oh none, ty, pos, af, g⟩ (Lg.slStr s lo hi f) any J := fun w Q ⟨hc, hm⟩ =>
  ⟨_, f _, trivial, fun u _ ρ hρ => by
    have hb : (Instr.sliceBounds false s.size s.size (optI kl lo) (optI kh hi) none).run P u = .ok ((lo.getD 0).toNat, (hi.getD s.size).toNat, s.size) u := run_bounds (P := P) (isS := false) (len := s.size) (cap := s.size) (lo := lo) (hi := hi) (mx := none) (kl := kl) (kh := kh) (km := .i64) (w := u) ⟨by simp, by simp⟩ ⟨hc.1, by simpa using hc.2.1⟩ ⟨hc.2.2.1, hc.2.2.2⟩ (by simp)
    simp [execOp, hρ _ _ hx, Env.evO_map hρ h1, Env.evO_map hρ h2, Instr.sliceAt, Instr.slice, run_underlying hT, hb], hm, h _⟩

/-! ### 5. Strings and bytes in memory -/
theorem bytes_run : ∀ (l : List UInt8) (s : ByteArray), (forIn (m := Sem) (l.map byt).toArray s (fun (c : Value) (r : ByteArray) => (match c with
      | Value.int IntKind.u8 n => pure (ForInStep.yield (r.push (UInt8.ofNat n.toNat)))
      | x => do
        stuck (α := PUnit) "bytesToString: byte expected"
        pure (ForInStep.yield r) : Sem (ForInStep ByteArray)))) = pure (s ++ ⟨l.toArray⟩) := by
  intro l
  induction l with
  | nil => intro s; simp; congr 1; apply ByteArray.ext; simp
  | cons b l ih =>
    intro s
    have e := ih (s.push b)
    simp only [List.map_cons, List.forIn_toArray, List.forIn_cons, byt] at e ⊢
    simp only [pure_bind, Int.toNat_natCast, UInt8.ofNat_toNat]
    rw [e]
    congr 1
    apply ByteArray.ext
    simp [ByteArray.push]
theorem run_strOf {a : Addr} {k c : Nat} {w : World} {t : ByteArray} (h : rdN w a 0 k = some (bytes t)) : (Conv.bytesToString (.slice (some a) k c)).run P w = .ok (.string t) w := by
  have e := bytes_run t.data.toList .empty
  simp only [Conv.bytesToString, Sem.run_bind, rdN_load h, Result.andThen_ok]
  refine (congrArg (fun s => (Sem.run P s w).andThen _) e).trans ?_
  simp
theorem Lt.strOf {s : Sl} {f : ByteArray → G ρ} {src dst e : TypeId} (hs' : P.underlying src = some (.slice e)) (hd' : P.underlying dst = some .string) (he : P.underlying e = some (.int .u8)) (hx : env.ev x = some (.slice s.a s.n s.c)) (h : ∀ t, J (.string t) (f t)) : Lt P env ⟨d, .convert src dst x, ty, pos, af, g⟩ (Lg.strOf s f) (likeS s 1) J := fun w Q ⟨t, ht, hm⟩ =>
  ⟨.string t, f t, rfl, fun u hu ρ hρ => by
    have ht' : rdSl u s 1 = some (bytes t) := hu.trans ht
    unfold rdSl at ht'
    cases ha : s.a with
    | none =>
      rw [ha] at ht' hx
      have e0 : t = .empty := by
        simp only [Option.some.injEq] at ht'
        apply ByteArray.ext
        apply Array.ext'
        unfold bytes at ht'
        have h2 := List.map_eq_nil_iff.1 ht'.symm
        simpa using h2
      subst e0
      simp [execOp, hρ _ _ hx, convert, run_underlying hs', run_underlying hd', run_underlying he, Conv.bytesToString]
    | some a =>
      rw [ha] at ht' hx
      simp only [Nat.mul_one] at ht'
      simp [execOp, hρ _ _ hx, convert, run_underlying hs', run_underlying hd', run_underlying he, run_strOf ht'], hm, h t⟩
end
end
end Go.Lg

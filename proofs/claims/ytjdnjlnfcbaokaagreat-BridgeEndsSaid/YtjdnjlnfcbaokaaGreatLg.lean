/-
  THE LAYER UNDER ALL PROOFS OF THIS SEAT: programs as predicate transformers over the world ('G'), and what it means that the model's code does what such a program says ('RefC', 'RefL', 'RefE'). Own work.
-/
import Derived.WalkKit
import Derived.LoopN
import Derived.Scope
import Derived.Deep.Draws
import Derived.Laws.MakeOwn
import Derived.Laws.IdiomStrings
set_option linter.unusedVariables false
set_option linter.unusedSimpArgs false
namespace Go.Lg
open Go

/-! ### 1. Programs over the world -/
structure G (α : Type) where
  run : World → (α → World → Prop) → Prop
  mono : ∀ {w Q Q'}, (∀ x w, Q x w → Q' x w) → run w Q → run w Q'
theorem G.ext {α : Type} {m m' : G α} (h : ∀ w Q, m.run w Q ↔ m'.run w Q) : m = m' := by
  cases m; cases m'
  congr
  funext w Q
  exact propext (h w Q)
structure Sl where
  a : Option Addr
  n : Nat
  c : Nat
def Sl.v (s : Sl) : Value := .slice s.a s.n s.c
def Sl.nil : Sl := ⟨none, 0, 0⟩

def one : Value → Bool
  | .agg _ | .tuple _ => false
  | _ => true
/-- n cells from a on (beginning with the i-th) -/
def rdN (w : World) (a : Addr) (i : Nat) : Nat → Option (List Value)
  | 0 => some []
  | n + 1 => match w.cell? (a.add i), rdN w a (i + 1) n with | some v, some l => some (v :: l) | _, _ => none
/-- values stored from a on (beginning with the i-th) -/
def stN (a : Addr) (i : Nat) : List Value → World → Option World
  | [], w => some w
  | v :: r, w => if one v = true ∧ (w.cell? (a.add i)).isSome = true ∧ w.frozen? (a.add i) = false then stN a (i + 1) r (w.setCell (a.add i) v) else none
def rdSl (w : World) (s : Sl) (sz : Nat) : Option (List Value) := match s.a with | some a => rdN w a 0 (s.n * sz) | none => some []
def byt (b : UInt8) : Value := .int .u8 b.toNat
def bytes (s : ByteArray) : List Value := s.data.toList.map byt
def bt (s : ByteArray) (i : Int) : Int := if h : i.toNat < s.size then ((s[i.toNat]'h).toNat : Int) else 0
/-- values of several cells -/
class Agg (α : Type) where
  size : Nat
  cells : α → List Value

section
variable {α β S : Type}
def ret (x : α) : G α := ⟨fun w Q => Q x w, fun h => h _ _⟩
def fail : G α := ⟨fun _ _ => False, fun _ h => h⟩
def bnd (m : G α) (f : α → G β) : G β := ⟨fun w Q => m.run w (fun x w1 => (f x).run w1 Q), fun h => m.mono (fun x w1 => (f x).mono h)⟩
def lt (x : α) (f : α → G β) : G β := f x
def chk (c : Prop) (f : G β) : G β := ⟨fun w Q => c ∧ f.run w Q, fun h hr => ⟨hr.1, f.mono h hr.2⟩⟩
def nn (p : Option Addr) (f : Addr → G β) : G β := ⟨fun w Q => ∃ a, p = some a ∧ (f a).run w Q, fun h ⟨a, e, hr⟩ => ⟨a, e, (f a).mono h hr⟩⟩
def wld (f : World → G β) : G β := ⟨fun w Q => (f w).run w Q, fun h => (f _).mono h⟩
/-- the order of a statement is drawn -/
def drw (f : G β) : G β := ⟨fun w Q => f.run w.drew Q, fun h => f.mono h⟩
def drw2 (f g : G β) : G β := ⟨fun w Q => f.run w.drew Q ∧ g.run w.drew Q, fun h hr => ⟨f.mono h hr.1, g.mono h hr.2⟩⟩
/-- it reads the same here -/
def agr (F : World → Prop) (f : G β) : G β := ⟨fun w Q => F w ∧ f.run w Q, fun h hr => ⟨hr.1, f.mono h hr.2⟩⟩

def ldV (a : Addr) (f : Value → G β) : G β := ⟨fun w Q => ∃ v, w.cell? a = some v ∧ (f v).run w Q, fun h ⟨v, e, hr⟩ => ⟨v, e, (f v).mono h hr⟩⟩
def ldI (k : IntKind) (a : Addr) (f : Int → G β) : G β := ⟨fun w Q => ∃ i, w.cell? a = some (.int k i) ∧ (f i).run w Q, fun h ⟨v, e, hr⟩ => ⟨v, e, (f v).mono h hr⟩⟩
def ldB (a : Addr) (f : Bool → G β) : G β := ⟨fun w Q => ∃ i, w.cell? a = some (.bool i) ∧ (f i).run w Q, fun h ⟨v, e, hr⟩ => ⟨v, e, (f v).mono h hr⟩⟩
def ldS (a : Addr) (f : ByteArray → G β) : G β := ⟨fun w Q => ∃ i, w.cell? a = some (.string i) ∧ (f i).run w Q, fun h ⟨v, e, hr⟩ => ⟨v, e, (f v).mono h hr⟩⟩
def ldP (a : Addr) (f : Option Addr → G β) : G β := ⟨fun w Q => ∃ i, w.cell? a = some (.pointer i) ∧ (f i).run w Q, fun h ⟨v, e, hr⟩ => ⟨v, e, (f v).mono h hr⟩⟩
def ldSl (a : Addr) (f : Sl → G β) : G β := ⟨fun w Q => ∃ i : Sl, w.cell? a = some (.slice i.a i.n i.c) ∧ (f i).run w Q, fun h ⟨v, e, hr⟩ => ⟨v, e, (f v).mono h hr⟩⟩
def ldG [Agg α] (a : Addr) (f : α → G β) : G β := ⟨fun w Q => ∃ x : α, rdN w a 0 (Agg.size α) = some (Agg.cells x) ∧ (f x).run w Q, fun h ⟨v, e, hr⟩ => ⟨v, e, (f v).mono h hr⟩⟩
def st (a : Addr) (v : Value) (f : G β) : G β := ⟨fun w Q => ∃ w1, stN a 0 v.cells.toList w = some w1 ∧ f.run w1 Q, fun h ⟨w1, e, hr⟩ => ⟨w1, e, f.mono h hr⟩⟩
def new (cs : List Value) (e : TypeId) (f : Addr → G β) : G β := ⟨fun w Q => (f ⟨w.heap.size, 0, none⟩).run (w.alloc (.cells cs.toArray e)) Q, fun h => (f _).mono h⟩
def ixA (s : Sl) (i : Int) (sz : Nat) (f : Addr → G β) : G β := ⟨fun w Q => ∃ ad, s.a = some ad ∧ (0 ≤ i ∧ i < s.n) ∧ (f (ad.add (i.toNat * sz))).run w Q, fun h ⟨a, e, e', hr⟩ => ⟨a, e, e', (f _).mono h hr⟩⟩
/-- a slice of a slice -/
def slS (s : Sl) (lo hi mx : Option Int) (sz : Nat) (f : Sl → G β) : G β :=
  ⟨fun w Q => (0 ≤ mx.getD s.c ∧ mx.getD s.c ≤ s.c ∧ 0 ≤ hi.getD s.n ∧ hi.getD s.n ≤ mx.getD s.c ∧ 0 ≤ lo.getD 0 ∧ lo.getD 0 ≤ hi.getD s.n) ∧
    (f ⟨if (mx.getD s.c).toNat = (lo.getD 0).toNat then s.a else s.a.map (·.add ((lo.getD 0).toNat * sz)), (hi.getD s.n).toNat - (lo.getD 0).toNat, (mx.getD s.c).toNat - (lo.getD 0).toNat⟩).run w Q, fun h hr => ⟨hr.1, (f _).mono h hr.2⟩⟩
/-- a slice of an array of n elements -/
def slA (a : Addr) (n : Nat) (lo hi : Option Int) (sz : Nat) (f : Sl → G β) : G β :=
  ⟨fun w Q => (0 ≤ hi.getD n ∧ hi.getD n ≤ n ∧ 0 ≤ lo.getD 0 ∧ lo.getD 0 ≤ hi.getD n) ∧
    (f ⟨some (if n = (lo.getD 0).toNat then a else a.add ((lo.getD 0).toNat * sz)), (hi.getD n).toNat - (lo.getD 0).toNat, n - (lo.getD 0).toNat⟩).run w Q, fun h hr => ⟨hr.1, (f _).mono h hr.2⟩⟩
/-- a slice of a string -/
def slStr (s : ByteArray) (lo hi : Option Int) (f : ByteArray → G β) : G β :=
  ⟨fun w Q => (0 ≤ hi.getD s.size ∧ hi.getD s.size ≤ s.size ∧ 0 ≤ lo.getD 0 ∧ lo.getD 0 ≤ hi.getD s.size) ∧ (f (s.extract (lo.getD 0).toNat (hi.getD s.size).toNat)).run w Q, fun h hr => ⟨hr.1, (f _).mono h hr.2⟩⟩
/-- a string out of bytes in memory -/
def strOf (s : Sl) (f : ByteArray → G β) : G β := ⟨fun w Q => ∃ t : ByteArray, rdSl w s 1 = some (bytes t) ∧ (f t).run w Q, fun h ⟨v, e, hr⟩ => ⟨v, e, (f v).mono h hr⟩⟩
/-- bytes in memory out of a string -/
def bytesOf (e : TypeId) (s : ByteArray) (f : Sl → G β) : G β :=
  ⟨fun w Q => ∀ c, s.size ≤ c → (f ⟨some ⟨w.heap.size, 0, none⟩, s.size, c⟩).run (w.drew.alloc (.cells (bytesRow s c) e ((bytesRow s c).size, (bytesRow s c).size + 1))) Q, fun h hr c hc => (f _).mono h (hr c hc)⟩
/-- the mark of a row whose bytes a string may share (one place behind its last cell) -/
def markW (w : World) (a : Addr) : World := match w.shape? a.block with | some (_, n) => w.freeze ⟨a.block, n, none⟩ 1 | none => w
def mrk (s : Sl) (f : G β) : G β := ⟨fun w Q => ∃ a, s.a = some a ∧ f.run (markW w a) Q, fun h ⟨a, e, hr⟩ => ⟨a, e, f.mono h hr⟩⟩
/-- make -/
def mk (e : TypeId) (sz bytes : Nat) (z : List Value) (len cap : Int) (f : Sl → G β) : G β :=
  ⟨fun w Q => (0 ≤ len ∧ len ≤ cap ∧ bytes * cap ≤ 281474976710656 ∧ cap ≤ 9223372036854775807) ∧ (f ⟨some ⟨w.heap.size, 0, none⟩, len.toNat, cap.toNat⟩).run (w.alloc (.cells (Builtin.zeroCells z.toArray cap.toNat) e)) Q, fun h hr => ⟨hr.1, (f _).mono h hr.2⟩⟩
/-- append; 'src': what is appended, n elements -/
def app (e : TypeId) (sz bytes : Nat) (z : List Value) (s : Sl) (n : Nat) (src : World → Option (List Value)) (f : Sl → G β) : G β :=
  ⟨fun w Q => (s.n + n ≤ s.c → ∃ new, src w = some new ∧ ∃ w1, (match s.a with | some a => stN (a.add (s.n * sz)) 0 new w = some w1 | none => w1 = w) ∧ (f ⟨s.a, s.n + n, s.c⟩).run w1 Q) ∧
    (s.c < s.n + n → (Builtin.nextslicecap (s.n + n) s.c * bytes ≤ 281474976710656 ∧ 0 < bytes) ∧ ∃ old new, rdSl w s sz = some old ∧ src w = some new ∧
      ∀ c, s.n + n ≤ c → (f ⟨some ⟨w.heap.size, 0, none⟩, s.n + n, c⟩).run (w.drew.alloc (.cells ((old ++ new).toArray ++ Builtin.zeroCells z.toArray (c - (s.n + n))) e)) Q),
   fun h hr => ⟨fun hc => let ⟨nw, e1, w1, e2, h2⟩ := hr.1 hc; ⟨nw, e1, w1, e2, (f _).mono h h2⟩, fun hc => let ⟨e0, old, nw, e1, e2, h2⟩ := hr.2 hc; ⟨e0, old, nw, e1, e2, fun c hc' => (f _).mono h (h2 c hc')⟩⟩⟩
def appS (e : TypeId) (sz bytes : Nat) (z : List Value) (s x : Sl) (f : Sl → G β) : G β := app e sz bytes z s x.n (fun w => rdSl w x sz) f
def appT (e : TypeId) (z : List Value) (s : Sl) (x : ByteArray) (f : Sl → G β) : G β := app e 1 1 z s x.size (fun _ => some (bytes x)) f
def appZ (e : TypeId) (sz bytes : Nat) (z : List Value) (s : Sl) (k : Int) (f : Sl → G β) : G β := chk (0 ≤ k ∧ (bytes : Int) * k ≤ 281474976710656 ∧ (s.n : Int) + k ≤ 9223372036854775807) (app e sz bytes z s k.toNat (fun _ => some (Builtin.zeroCells z.toArray k.toNat).toList) f)
/-- copy -/
def cpy (sz : Nat) (d s : Sl) (f : Int → G β) : G β :=
  ⟨fun w Q => ∃ l, rdSl w ⟨s.a, min s.n d.n, s.c⟩ sz = some l ∧ ∃ w1, (match d.a with | some a => stN a 0 l w = some w1 | none => w1 = w) ∧ (f ((min s.n d.n : Nat) : Int)).run w1 Q, fun h ⟨l, e, w1, e', hr⟩ => ⟨l, e, w1, e', (f _).mono h hr⟩⟩
/-- at most so many rounds of a loop -/
def loopG (step : (S → G α) → S → G α) : Nat → S → G α
  | 0, _ => fail
  | k + 1, s => step (loopG step k) s
def sumK {σ ρ : Type} (m2 : σ → G ρ) : σ ⊕ ρ → G ρ
  | .inl s => m2 s
  | .inr r => ret r
def inr {σ ρ : Type} (m : G ρ) : G (σ ⊕ ρ) := bnd m (fun r => ret (.inr r))
end

/-! ### 2. The frame, told as a list -/
def Env := List (Nat × Value)
def Env.get : Env → Nat → Option Value
  | [], _ => none
  | (k, v) :: r, t => bif Nat.beq k t then some v else Env.get r t
def Env.ev (env : Env) : Operand → Option Value
  | .tmp t => env.get t
  | .const v => some v
  | .global g => some (.pointer (some ⟨g, 0, none⟩))
  | .func f => some (.func (.func f) #[] #[])
def Env.put (env : Env) : Option Tmp → Value → Env
  | some d, v => (d, v) :: env
  | none, _ => env
def Env.Sub : Env → Env → Prop
  | [], _ => True
  | (k, v) :: r, env => env.get k = some v ∧ Env.Sub r env
theorem Env.Sub.get {s env : Env} (h : Env.Sub s env) {t : Nat} {v : Value} (hg : s.get t = some v) : env.get t = some v := by
  induction s with
  | nil => simp [Env.get] at hg
  | cons p r ih =>
    obtain ⟨k, u⟩ := p
    simp only [Env.get] at hg
    cases hb : Nat.beq k t with
    | true => simp [hb] at hg; subst hg; rw [← Nat.eq_of_beq_eq_true hb]; exact h.1
    | false => simp [hb] at hg; exact ih h.2 hg
structure Sim (n : Nat) (env : Env) (a : Act) : Prop where
  size : a.tmps.size = n
  defers : a.defers = []
  get : ∀ t v, env.get t = some v → a.tmps.getD t undef = v
theorem Sim.ev {n : Nat} {env : Env} {a : Act} (h : Sim n env a) {x : Operand} {v : Value} (hx : env.ev x = some v) : a.eval x = v := by
  cases x with
  | tmp t => exact h.get t v hx
  | const c => simp only [Env.ev, Option.some.injEq] at hx; exact hx
  | global g => simp only [Env.ev, Option.some.injEq] at hx; exact hx
  | func f => simp only [Env.ev, Option.some.injEq] at hx; exact hx
def inB (n : Nat) : Option Tmp → Bool
  | some d => Nat.blt d n
  | none => true
theorem Sim.put {n : Nat} {env : Env} {a : Act} (h : Sim n env a) {d : Option Tmp} (hd : inB n d = true) (v : Value) : Sim n (env.put d v) (a.put d v) := by
  cases d with
  | none => exact h
  | some d =>
    have hd' : d < n := by simpa [inB, Nat.blt_eq] using hd
    refine ⟨by simp [Act.put, h.size], by simpa [Act.put] using h.defers, ?_⟩
    intro t u hg
    simp only [Env.put, Env.get] at hg
    cases hb : Nat.beq d t with
    | true =>
      have e := Nat.eq_of_beq_eq_true hb
      subst e
      simp [hb] at hg; subst hg
      simp [Act.put, h.size, hd']
    | false =>
      have hne : d ≠ t := fun e => by subst e; simp at hb
      simp [hb] at hg
      have := h.get t u hg
      simp only [Act.put, Array.getD_eq_getD_getElem?] at *
      rw [Array.getElem?_setIfInBounds_ne hne]
      exact this
theorem Sim.weaken {n : Nat} {s env : Env} {a : Act} (h : Sim n env a) (hs : Env.Sub s env) : Sim n s a := ⟨h.size, h.defers, fun t v hg => h.get t v (hs.get hg)⟩

/-! ### 3. What an operation comes to -/
section
variable {P : Program}
/-- whatever it comes to is one of R -/
def OpRan (P : Program) (s : Sem Next) (u : World) (R : Value → World → Prop) : Prop :=
  (∃ v u', s.run P u = .ok (.value v) u' ∧ R v u') ∨ (∃ u', s.run P u = .ok .skip u' ∧ R undef u') ∨
  (∃ f args u0, s.run P u = .ok (.enter f args) u0 ∧ Calls P f args u0 (fun e w => ∃ v, e = .returned v ∧ R v w))
theorem OpRan.imp {s : Sem Next} {u : World} {R R' : Value → World → Prop} (h : OpRan P s u R) (hi : ∀ v w, R v w → R' v w) : OpRan P s u R' := by
  rcases h with ⟨v, u', h, hr⟩ | ⟨u', h, hr⟩ | ⟨f, args, u0, h, hc⟩
  · exact .inl ⟨v, u', h, hi _ _ hr⟩
  · exact .inr (.inl ⟨u', h, hi _ _ hr⟩)
  · exact .inr (.inr ⟨f, args, u0, h, hc.mono fun e w ⟨v, e1, hr⟩ => ⟨v, e1, hi _ _ hr⟩⟩)
def Agrees (env : Env) (ρ : Operand → Value) : Prop := ∀ x v, env.ev x = some v → ρ x = v
theorem Sim.agrees {n : Nat} {env : Env} {a : Act} (h : Sim n env a) : Agrees env a.eval := fun _ _ hx => h.ev hx
def RanR (P : Program) (env : Env) (o : Oper) (u : World) (R : Value → World → Prop) : Prop := ∀ ρ, Agrees env ρ → OpRan P (execOp ρ o) u R
/-- it yields v, and leaves the world alone -/
def RanE (P : Program) (env : Env) (o : Oper) (u : World) (v : Value) : Prop := ∀ ρ, Agrees env ρ → (execOp ρ o).run P u = .ok (.value v) u
theorem RanE.ranR {env : Env} {o : Oper} {u : World} {v : Value} {R : Value → World → Prop} (h : RanE P env o u v) (hR : R v u) : RanR P env o u R := fun ρ hρ => .inl ⟨v, u, h ρ hρ, hR⟩
theorem OpRan.wp {o : Oper} {a : Act} {u : World} {R : Value → World → Prop} {next : Act → World → Prop} {Q : Exit → Act → World → Prop} (h : OpRan P (execOp a.eval o) u R) (hn : ∀ v u', R v u' → next (a.put o.dst v) u') : o.wp P a u next Q := by
  unfold Oper.wp
  rcases h with ⟨v, u', h, hr⟩ | ⟨u', h, hr⟩ | ⟨f, args, u0, h, hc⟩
  · rw [h]; exact hn _ _ hr
  · rw [h]; exact hn _ _ hr
  · rw [h]
    refine Calls.mono hc fun e w he => ?_
    obtain ⟨v, rfl, hr⟩ := he
    exact hn _ _ hr
/-- whether an operation is wanted (its guard), as far as the frame tells -/
def Want (ops : Array Oper) (env : Env) : Option (Nat × Bool) → Option Bool
  | none => some true
  | some (j, want) => match (ops[j]?).bind (·.dst) with
    | some s => match env.get s with
      | some (.bool b) => some (b == want)
      | some (.tuple _) => some false
      | _ => none
    | none => none
theorem yielded_of {ops : Array Oper} {n : Nat} {env : Env} {a : Act} (h : Sim n env a) {j s : Nat} {b : Bool} (hs : (ops[j]?).bind (·.dst) = some s) (hg : env.get s = some (.bool b)) : yielded ops a.tmps j = some b := by
  have := h.get s _ hg
  unfold yielded
  rw [hs]
  simp only [Option.bind_some]
  rw [Array.getD_eq_getD_getElem?] at this
  cases hh : a.tmps[s]? with
  | none => rw [hh] at this; simp [undef] at this
  | some v => rw [hh] at this; simp at this; subst this; rfl
theorem yielded_not {ops : Array Oper} {tmps : Array Value} {j s : Nat} {vs : Array Value} (hs : (ops[j]?).bind (·.dst) = some s) (h : tmps.getD s undef = .tuple vs) : yielded ops tmps j = none := by
  unfold yielded
  rw [hs]
  simp only [Option.bind_some]
  rw [Array.getD_eq_getD_getElem?] at h
  cases hh : tmps[s]? with
  | none => rfl
  | some v => rw [hh] at h; simp at h; subst h; rfl
theorem wanted_of {ops : Array Oper} {n : Nat} {env : Env} {a : Act} (h : Sim n env a) {o : Oper} {t : Bool} (hw : Want ops env o.guard = some t) : Region.wanted o (yielded ops a.tmps) = t := by
  unfold Want at hw
  unfold Region.wanted
  split at hw
  · rename_i hg; rw [hg]; simpa using hw
  · rename_i j want hg
    rw [hg]
    split at hw
    · rename_i s hs
      split at hw
      · rename_i b hb
        have := yielded_of h hs hb
        simp only [this]
        simp at hw
        rw [← hw]
        cases b <;> cases want <;> rfl
      · rename_i vs hb
        simp only [Option.some.injEq] at hw
        subst hw
        simp only [yielded_not hs (h.get s _ hb)]
        rfl
      · simp at hw
    · simp at hw
theorem wpList_ran {ops : Array Oper} {Q : Exit → Act → World → Prop} {n : Nat} {env : Env} {o : Oper} {rest : List Oper} {a : Act} {u : World} {R : Value → World → Prop}
    (hs : Sim n env a) (hw : Want ops env o.guard = some true) (hd : inB n o.dst = true) (hr : RanR P env o u R)
    (h : ∀ v u', R v u' → ∀ a', Sim n (env.put o.dst v) a' → wpList P ops Q rest a' u') : wpList P ops Q (o :: rest) a u := by
  unfold wpList
  rw [wanted_of hs hw]
  simp only [if_true]
  exact .inl (OpRan.wp (hr _ hs.agrees) (fun v u' hR => h v u' hR _ (hs.put hd v)))
theorem wpList_skip {ops : Array Oper} {Q : Exit → Act → World → Prop} {n : Nat} {env : Env} {o : Oper} {rest : List Oper} {a : Act} {u : World}
    (hs : Sim n env a) (hw : Want ops env o.guard = some false) (hd : inB n o.dst = true)
    (h : ∀ a', Sim n (env.put o.dst undef) a' → wpList P ops Q rest a' u) : wpList P ops Q (o :: rest) a u := by
  unfold wpList
  rw [wanted_of hs hw]
  simp only [Bool.false_eq_true, if_false]
  exact h _ (hs.put hd undef)
end

/-! ### 4. Code that does what a program says -/
section
variable {P : Program} {n : Nat} {ρ σ : Type}
abbrev Post (ρ : Type) := (ρ → World → Prop) → Exit → Act → World → Prop
def RefC (P : Program) (n : Nat) (c : Code) (env : Env) (m : G ρ) (K : Post ρ) : Prop := ∀ w Q, m.run w Q → ∀ a, Sim n env a → c.wp P (K Q) a w
def RefE (n : Nat) (e : Exit) (env : Env) (m : G ρ) (K : Post ρ) : Prop := ∀ w Q, m.run w Q → ∀ a, Sim n env a → K Q e a w
def RefL (P : Program) (n : Nat) (ops : Array Oper) (l : List Oper) (env : Env) (m : G ρ) (K : Post ρ) : Prop := ∀ w Q, m.run w Q → ∀ a, Sim n env a → wpList P ops (K Q) l a w
def KThen (P : Program) (y : Code) (K : Post ρ) : Post ρ := fun Q => Exit.then (y.wp P (K Q)) (K Q)
def KBlock (id : Nat) (K : Post ρ) : Post ρ := fun Q => Exit.inBlock id (K Q)
def KRound (P : Program) (body : Code) (k : Nat) (K : Post ρ) : Post ρ := fun Q => Exit.then (Code.rounds P body (K Q) k) (K Q)
/-- a piece that comes to its end, with these slots -/
def KEnd (n : Nat) (enc : σ → Env) : Post σ := fun Q e a w => e = .normal ∧ ∃ s, Sim n (enc s) a ∧ Q s w
/-- a piece that comes to its end, or returns -/
def KSum (n : Nat) (enc : σ → Env) (K : Post ρ) : Post (σ ⊕ ρ) := fun Q e a w => (e = .normal ∧ ∃ s, Sim n (enc s) a ∧ Q (.inl s) w) ∨ K (fun r w' => Q (.inr r) w') e a w
variable {c x y : Code} {env : Env} {m : G ρ} {K : Post ρ}
theorem RefC.seq (h : RefC P n x env m (KThen P y K)) : RefC P n (.seq x y) env m K := fun w Q hm a hs => wp_seq (h w Q hm a hs)
theorem RefE.next (h : RefC P n y env m K) : RefE n .normal env m (KThen P y K) := h
theorem RefE.thenRet (h : RefE n .ret env m K) : RefE n .ret env m (KThen P y K) := h
theorem RefE.thenExit {id : Nat} (h : RefE n (.exit id) env m K) : RefE n (.exit id) env m (KThen P y K) := h
theorem RefE.roundRet {k : Nat} (h : RefE n .ret env m K) : RefE n .ret env m (KRound P y k K) := h
theorem RefE.roundExit {k id : Nat} (h : RefE n (.exit id) env m K) : RefE n (.exit id) env m (KRound P y k K) := h
theorem RefE.blockNormal {id : Nat} (h : RefE n .normal env m K) : RefE n .normal env m (KBlock id K) := h
theorem RefE.blockRet {id : Nat} (h : RefE n .ret env m K) : RefE n .ret env m (KBlock id K) := h
theorem RefE.blockExit {id : Nat} (h : RefE n .normal env m K) : RefE n (.exit id) env m (KBlock id K) := fun w Q hm a hs => by
  simp only [KBlock, Exit.inBlock, if_true]; exact h w Q hm a hs
theorem RefE.blockPast {id id' : Nat} (hne : Nat.beq id' id = false) (h : RefE n (.exit id') env m K) : RefE n (.exit id') env m (KBlock id K) := fun w Q hm a hs => by
  have : id' ≠ id := fun e => by subst e; simp at hne
  simp only [KBlock, Exit.inBlock, if_neg this]; exact h w Q hm a hs
theorem RefE.weaken {e : Exit} {s : Env} (hs : Env.Sub s env) (h : RefE n e s m K) : RefE n e env m K := fun w Q hm a ha => h w Q hm a (ha.weaken hs)
theorem RefC.weaken {s : Env} (hs : Env.Sub s env) (h : RefC P n c s m K) : RefC P n c env m K := fun w Q hm a ha => h w Q hm a (ha.weaken hs)
theorem RefC.skip (h : RefE n .normal env m K) : RefC P n .skip env m K := fun w Q hm a hs => wp_skip (h w Q hm a hs)
theorem RefC.ret (h : RefE n .ret env m K) : RefC P n .ret env m K := fun w Q hm a hs => wp_ret (h w Q hm a hs)
theorem RefC.exit {id : Nat} (h : RefE n (.exit id) env m K) : RefC P n (.exit id) env m K := fun w Q hm a hs => wp_exit (h w Q hm a hs)
theorem RefC.block {id : Nat} (h : RefC P n c env m (KBlock id K)) : RefC P n (.block id c) env m K := fun w Q hm a hs => wp_block (h w Q hm a hs)
theorem RefC.region {id : Nat} {l : List Oper} (h : RefL P n l.toArray l env m K) : RefC P n (.region id l.toArray false) env m K := fun w Q hm a hs => wp_region_lit (h w Q hm a hs)
theorem RefC.cond {t : Operand} {b : Bool} {m1 m2 : G ρ} (ht : env.ev t = some (.bool b)) (h1 : RefC P n x env m1 K) (h2 : RefC P n y env m2 K) : RefC P n (.cond t x y) env (if b = true then m1 else m2) K := fun w Q hm a hs => by
  cases b with
  | true => exact wp_cond_true (hs.ev ht) (h1 w Q (by simpa using hm) a hs)
  | false => exact wp_cond_false (hs.ev ht) (h2 w Q (by simpa using hm) a hs)
theorem RefC.condT {t : Operand} (ht : env.ev t = some (.bool true)) (h1 : RefC P n x env m K) : RefC P n (.cond t x y) env m K := fun w Q hm a hs => wp_cond_true (hs.ev ht) (h1 w Q hm a hs)
theorem RefC.condF {t : Operand} (ht : env.ev t = some (.bool false)) (h2 : RefC P n y env m K) : RefC P n (.cond t x y) env m K := fun w Q hm a hs => wp_cond_false (hs.ev ht) (h2 w Q hm a hs)
theorem RefC.fails : RefC P n c env (fail : G ρ) K := fun w Q hm => hm.elim
/-- a piece told apart from what follows -/
theorem RefC.cut {m1 : G σ} {m2 : σ → G ρ} {enc : σ → Env} (h1 : RefC P n c env m1 (KEnd n enc)) (h2 : ∀ s, RefE n .normal (enc s) (m2 s) K) : RefC P n c env (bnd m1 m2) K := fun w Q hm a hs => by
  refine wp_mono (h1 w _ hm a hs) ?_
  rintro e a' w'' ⟨rfl, s, hs', hq⟩
  exact h2 s _ Q hq a' hs'
theorem RefC.cutSum {m1 : G (σ ⊕ ρ)} {m2 : σ → G ρ} {enc : σ → Env} (hK : ∀ (Q Q' : ρ → World → Prop), (∀ r w, Q r w → Q' r w) → ∀ e a w, K Q e a w → K Q' e a w) (h1 : RefC P n c env m1 (KSum n enc K)) (h2 : ∀ s, RefE n .normal (enc s) (m2 s) K) : RefC P n c env (bnd m1 (sumK m2)) K := fun w Q hm a hs => by
  refine wp_mono (h1 w _ hm a hs) ?_
  rintro e a' w'' (⟨rfl, s, hs', hq⟩ | hk)
  · exact h2 s _ Q hq a' hs'
  · exact hK _ _ (fun r w h => h) _ _ _ hk
theorem RefE.fin {enc : σ → Env} {s : σ} (h : Env.Sub (enc s) env) : RefE n .normal env (Lg.ret s) (KEnd n enc) := fun w Q hm a hs => ⟨rfl, s, hs.weaken h, hm⟩
theorem RefE.finL {enc : σ → Env} {s : σ} (h : Env.Sub (enc s) env) : RefE n .normal env (Lg.ret (.inl s)) (KSum n enc K) := fun w Q hm a hs => .inl ⟨rfl, s, hs.weaken h, hm⟩
theorem RefE.finR {enc : σ → Env} {e : Exit} (h : RefE n e env m K) : RefE n e env (Lg.inr m) (KSum n enc K) := fun w Q hm a hs => .inr (h w _ hm a hs)
/-- loops: from state s on, k rounds at most -/
def RefR (P : Program) (n : Nat) (body : Code) (k : Nat) (env : Env) (m : G ρ) (K : Post ρ) : Prop := ∀ w Q, m.run w Q → ∀ a, Sim n env a → Code.rounds P body (K Q) k a w
theorem RefE.again {body : Code} {k : Nat} {s : Env} (h : RefR P n body k s m K) (hs : Env.Sub s env) : RefE n .normal env m (KRound P body k K) := fun w Q hm a ha => h w Q hm a (ha.weaken hs)
theorem RefC.loop {body : Code} {S : Type} {enc : S → Env} {step : (S → G ρ) → S → G ρ}
    (hstep : ∀ (again : S → G ρ) k, (∀ s, RefR P n body k (enc s) (again s) K) → ∀ s, RefC P n body (enc s) (step again s) (KRound P body k K)) (k : Nat) (s : S) : RefC P n (.loop body) (enc s) (loopG step k s) K := by
  have key : ∀ k s, RefR P n body k (enc s) (loopG step k s) K := by
    intro k
    induction k with
    | zero => intro s w Q hm; exact hm.elim
    | succ k ih => intro s w Q hm a ha; exact hstep (loopG step k) k ih s w Q hm a ha
  exact fun w Q hm a ha => wp_loop_rounds k (key k s w Q hm a ha)
theorem RefC.loopW {body : Code} {S : Type} {enc : S → Env} {step : (S → G ρ) → S → G ρ} {s : S} (hs : Env.Sub (enc s) env)
    (hstep : ∀ (again : S → G ρ) k, (∀ s, RefR P n body k (enc s) (again s) K) → ∀ s, RefC P n body (enc s) (step again s) (KRound P body k K)) (k : Nat) : RefC P n (.loop body) env (loopG step k s) K :=
  RefC.weaken hs (RefC.loop hstep k s)
theorem RefC.label {l : Nat} (h : RefE n .normal env m K) : RefC P n (.label l) env m K := fun w Q hm a hs => wp_label (h w Q hm a hs)
theorem KEnd.mono {enc : σ → Env} (Q Q' : σ → World → Prop) (h : ∀ r w, Q r w → Q' r w) : ∀ e a w, KEnd n enc Q e a w → KEnd n enc Q' e a w :=
  fun e a w ⟨h1, s, h2, h3⟩ => ⟨h1, s, h2, h _ _ h3⟩
def KScope (K : Post ρ) : Post ρ := fun Q => Exit.noGoto (K Q)
theorem RefC.scope (h : RefC P n c env m (KScope K)) : RefC P n (.scope c) env m K := fun w Q hm a hs => wp_scope_straight (h w Q hm a hs)
theorem RefE.scopeNormal (h : RefE n .normal env m K) : RefE n .normal env m (KScope K) := h
theorem RefE.scopeRet (h : RefE n .ret env m K) : RefE n .ret env m (KScope K) := h
theorem RefE.scopeExit {id : Nat} (h : RefE n (.exit id) env m K) : RefE n (.exit id) env m (KScope K) := h
theorem KScope.mono (hK : ∀ (Q Q' : ρ → World → Prop), (∀ r w, Q r w → Q' r w) → ∀ e a w, K Q e a w → K Q' e a w) (Q Q' : ρ → World → Prop) (h : ∀ r w, Q r w → Q' r w) : ∀ e a w, KScope K Q e a w → KScope K Q' e a w := by
  intro e a w hb
  cases e <;> simp only [KScope, Exit.noGoto] at hb ⊢ <;> exact hK _ _ h _ _ _ hb
/-! #### a function's end -/
def pack (vs : List Value) : Value := if h : vs.length = 1 then vs[0] else .tuple vs.toArray
def KRet (P : Program) (fn : Func) (enc : ρ → Value) : Post ρ := fun Q e a w => bodyPost P fn (fun e' w'' => ∃ r, e' = .returned (enc r) ∧ Q r w'') e a w
theorem bodyPost_mono {fn : Func} {R R' : Ending → World → Prop} (h : ∀ e w, R e w → R' e w) : ∀ e a w, bodyPost P fn R e a w → bodyPost P fn R' e a w := by
  intro e a w hb
  cases e <;> simp only [bodyPost] at hb ⊢
  · exact ⟨hb.1, hb.2.imp fun v hv => ⟨hv.1, h _ _ hv.2⟩⟩
  · exact ⟨hb.1, hb.2.imp fun v hv => ⟨hv.1, h _ _ hv.2⟩⟩
  · exact ⟨hb.1, h _ _ hb.2⟩
  · exact h _ _ hb
theorem KRet.mono {fn : Func} {enc : ρ → Value} (Q Q' : ρ → World → Prop) (h : ∀ r w, Q r w → Q' r w) : ∀ e a w, KRet P fn enc Q e a w → KRet P fn enc Q' e a w :=
  bodyPost_mono fun e w ⟨r, e1, hq⟩ => ⟨r, e1, h _ _ hq⟩
theorem KThen.mono (hK : ∀ (Q Q' : ρ → World → Prop), (∀ r w, Q r w → Q' r w) → ∀ e a w, K Q e a w → K Q' e a w) (Q Q' : ρ → World → Prop) (h : ∀ r w, Q r w → Q' r w) : ∀ e a w, KThen P y K Q e a w → KThen P y K Q' e a w := by
  intro e a w hb
  cases e <;> simp only [KThen, Exit.then] at hb ⊢ <;> first | exact hK _ _ h _ _ _ hb | exact wp_mono hb (hK _ _ h)
theorem KBlock.mono {id : Nat} (hK : ∀ (Q Q' : ρ → World → Prop), (∀ r w, Q r w → Q' r w) → ∀ e a w, K Q e a w → K Q' e a w) (Q Q' : ρ → World → Prop) (h : ∀ r w, Q r w → Q' r w) : ∀ e a w, KBlock id K Q e a w → KBlock id K Q' e a w := by
  intro e a w hb
  cases e <;> simp only [KBlock, Exit.inBlock] at hb ⊢ <;> first | exact hK _ _ h _ _ _ hb | (split at hb <;> rename_i hh <;> simp only [hh, if_true, if_false] <;> exact hK _ _ h _ _ _ hb)
theorem rounds_mono {body : Code} (hK : ∀ (Q Q' : ρ → World → Prop), (∀ r w, Q r w → Q' r w) → ∀ e a w, K Q e a w → K Q' e a w) (Q Q' : ρ → World → Prop) (h : ∀ r w, Q r w → Q' r w) : ∀ k a w, Code.rounds P body (K Q) k a w → Code.rounds P body (K Q') k a w := by
  intro k
  induction k with
  | zero => intro a w hh; exact hh
  | succ k ih =>
    intro a w hh
    refine wp_mono hh ?_
    intro e a' w' he
    cases e <;> simp only [Exit.then] at he ⊢ <;> first | exact ih _ _ he | exact hK _ _ h _ _ _ he
theorem KRound.mono {k : Nat} (hK : ∀ (Q Q' : ρ → World → Prop), (∀ r w, Q r w → Q' r w) → ∀ e a w, K Q e a w → K Q' e a w) (Q Q' : ρ → World → Prop) (h : ∀ r w, Q r w → Q' r w) : ∀ e a w, KRound P y k K Q e a w → KRound P y k K Q' e a w := by
  intro e a w hb
  cases e <;> simp only [KRound, Exit.then] at hb ⊢ <;> first | exact rounds_mono hK _ _ h _ _ _ hb | exact hK _ _ h _ _ _ hb
theorem KSum.mono {enc : σ → Env} (hK : ∀ (Q Q' : ρ → World → Prop), (∀ r w, Q r w → Q' r w) → ∀ e a w, K Q e a w → K Q' e a w) (Q Q' : σ ⊕ ρ → World → Prop) (h : ∀ r w, Q r w → Q' r w) : ∀ e a w, KSum n enc K Q e a w → KSum n enc K Q' e a w := by
  rintro e a w (⟨rfl, s, hs, hq⟩ | hk)
  · exact .inl ⟨rfl, s, hs, h _ _ hq⟩
  · exact .inr (hK _ _ (fun r w' => h (.inr r) w') _ _ _ hk)
def resAt (tmps : Array Value) : ResultVar → Sem Value
  | .tmp t => pure (tmps.getD t undef)
  | .cell a t => do loadVar t (← asAddr (tmps.getD a undef))
theorem results_run {P : Program} {fn : Func} {rs : List ResultVar} (h : fn.results = rs.toArray) {tmps : Array Value} {w : World} {vs : List Value} (hr : (rs.mapM (resAt tmps)).run P w = .ok vs w) : (results fn tmps).run P w = .ok (pack vs) w := by
  have e : results fn tmps = (do let vs ← fn.results.mapM (resAt tmps); pure (if h : vs.size = 1 then vs[0] else .tuple vs)) := by
    unfold results resAt
    rfl
  rw [e, h]
  simp only [List.mapM_toArray, Sem.run_bind, Sem.run_map, hr, Result.andThen_ok, Sem.run_pure]
  congr 1
def RefV (P : Program) (n : Nat) (rs : List ResultVar) (acc : List Value) (env : Env) (m : G ρ) (enc : ρ → Value) : Prop :=
  ∀ w Q, m.run w Q → ∀ a, Sim n env a → ∃ vs : List Value, (rs.mapM (resAt a.tmps)).run P w = .ok vs w ∧ ∃ r, enc r = pack (acc ++ vs) ∧ Q r w
theorem RefV.nil {acc : List Value} {enc : ρ → Value} {x : ρ} (h : enc x = pack acc) : RefV P n [] acc env (Lg.ret x) enc := fun w Q hm a hs =>
  ⟨[], by simp, x, by simpa using h, hm⟩
theorem RefV.tmp {rs : List ResultVar} {acc : List Value} {enc : ρ → Value} {t : Nat} {v : Value} (ht : env.get t = some v) (h : RefV P n rs (acc ++ [v]) env m enc) : RefV P n (.tmp t :: rs) acc env m enc := fun w Q hm a hs => by
  obtain ⟨vs, h1, r, h2, h3⟩ := h w Q hm a hs
  refine ⟨v :: vs, ?_, r, by simpa using h2, h3⟩
  simp only [List.mapM_cons, Sem.run_bind, resAt, hs.get t v ht, Sem.run_pure, Result.andThen_ok, h1]
theorem RefE.retV {fn : Func} {rs : List ResultVar} {enc : ρ → Value} (hr : fn.results = rs.toArray) (h : RefV P n rs [] env m enc) : RefE n .ret env m (KRet P fn enc) := fun w Q hm a hs => by
  obtain ⟨vs, h1, r, h2, h3⟩ := h w Q hm a hs
  exact ⟨hs.defers, _, results_run hr h1, r, by simpa using h2.symm, h3⟩
theorem RefE.endV {fn : Func} {rs : List ResultVar} {enc : ρ → Value} (hr : fn.results = rs.toArray) (h : RefV P n rs [] env m enc) : RefE n .normal env m (KRet P fn enc) := fun w Q hm a hs => by
  obtain ⟨vs, h1, r, h2, h3⟩ := h w Q hm a hs
  exact ⟨hs.defers, _, results_run hr h1, r, by simpa using h2.symm, h3⟩
/-- what a whole function comes to -/
def Does (P : Program) (f : Nat) (args : List Value) (m : G ρ) (enc : ρ → Value) : Prop := ∀ w Q, m.run w Q → Calls P f args.toArray w (fun e w'' => ∃ r, e = .returned (enc r) ∧ Q r w'')
def envOf : Nat → List Value → Env
  | _, [] => []
  | i, v :: r => (i, v) :: envOf (i + 1) r
theorem envOf_get : ∀ (l : List Value) (i t : Nat) (v : Value), (envOf i l).get t = some v → i ≤ t ∧ l[t - i]? = some v := by
  intro l
  induction l with
  | nil => intro i t v h; simp [envOf, Env.get] at h
  | cons u r ih =>
    intro i t v h
    simp only [envOf, Env.get] at h
    cases hb : Nat.beq i t with
    | true => simp [hb] at h; have e := Nat.eq_of_beq_eq_true hb; subst e; subst h; simp
    | false =>
      simp [hb] at h
      obtain ⟨h1, h2⟩ := ih (i + 1) t v h
      refine ⟨by omega, ?_⟩
      have e : t - i = (t - (i + 1)) + 1 := by omega
      rw [e]; simpa using h2
theorem Does.of {f : Nat} {fn : Func} {c : Code} {args : List Value} {enc : ρ → Value} (hf : P.funcs[f]? = some fn) (hb : fn.body = some c) (hn : fn.ntmps = n) (hl : Nat.ble args.length n = true)
    (h : RefC P n c (envOf 0 args) m (KRet P fn enc)) : Does P f args m enc := fun w Q hm => by
  have hl' : args.length ≤ n := Nat.le_of_ble_eq_true hl
  refine calls_of_wp hf hb (h w Q hm _ ⟨?_, rfl, ?_⟩)
  · simp [hn]; omega
  · intro t v hg
    obtain ⟨_, h2⟩ := envOf_get args 0 t v hg
    simp only [Nat.sub_zero] at h2
    have hlt : t < args.length := (List.getElem?_eq_some_iff.1 h2).1
    have h3 := (List.getElem?_eq_some_iff.1 h2).2
    simp [Array.getElem?_append, hlt, h3]
end
end Go.Lg

/-
  ONE LAW FOR EACH KIND OF OPERATION: what it comes to, given the frame as a list. Own work.
-/
import Derived.Test.YtjdnjlnfcbaokaaGreatLg
import Derived.Laws.MakeOwn
set_option linter.unusedVariables false
set_option linter.unusedSimpArgs false
namespace Go.Lg
open Go

section
variable {P : Program} {n : Nat} {ρ τ : Type} {ops : Array Oper} {rest : List Oper} {env : Env} {m : G ρ} {K : Post ρ}
  {d : Option Tmp} {ty : TypeId} {pos : String} {af : Array Edge} {g : Option (Nat × Bool)} {x y z : Operand} {T T' : TypeId}

/-! ### 1. Operations that leave the world alone -/
def RanP (P : Program) (env : Env) (o : Oper) (v : Value) : Prop := ∀ u, RanE P env o u v
theorem RefL.pure {op : Op} {v : Value} (hw : Want ops env g = some true) (hd : inB n d = true) (hr : RanP P env ⟨d, op, ty, pos, af, g⟩ v) (h : RefL P n ops rest (env.put d v) m K) : RefL P n ops (⟨d, op, ty, pos, af, g⟩ :: rest) env m K :=
  fun w Q hm a hs => wpList_ran (R := fun v' w' => v' = v ∧ w' = w) hs hw hd ((hr w).ranR ⟨rfl, rfl⟩) (fun v' u' ⟨e1, e2⟩ a' hs' => by subst e1; subst e2; exact h _ Q hm a' hs')
theorem RefL.skip {op : Op} (hw : Want ops env g = some false) (hd : inB n d = true) (h : RefL P n ops rest (env.put d undef) m K) : RefL P n ops (⟨d, op, ty, pos, af, g⟩ :: rest) env m K :=
  fun w Q hm a hs => wpList_skip hs hw hd (fun a' hs' => h w Q hm a' hs')
theorem RefL.nil (h : RefE n .normal env m K) : RefL P n ops [] env m K := fun w Q hm a hs => wpList_nil (h w Q hm a hs)
theorem RefL.fails {l : List Oper} : RefL P n ops l env (fail : G ρ) K := fun w Q hm => hm.elim
theorem RefL.weaken {l : List Oper} {s : Env} (hs : Env.Sub s env) (h : RefL P n ops l s m K) : RefL P n ops l env m K := fun w Q hm a ha => h w Q hm a (ha.weaken hs)
theorem Sim.named {env : Env} {a : Act} (hs : Sim n env a) {s : Nat} {v : Value} (hb : env.get s = some v) : Sim n ((s, v) :: env) a := by
  refine ⟨hs.size, hs.defers, fun t u hg => ?_⟩
  simp only [Env.get] at hg
  cases hh : Nat.beq s t with
  | true => have e := Nat.eq_of_beq_eq_true hh; subst e; simp [hh] at hg; subst hg; exact hs.get s _ hb
  | false => simp [hh] at hg; exact hs.get t u hg
/-- a bool told apart -/
theorem RefL.ite {l : List Oper} {s : Nat} {b : Bool} {m1 m2 : G ρ} (hb : env.get s = some (.bool b)) (h1 : RefL P n ops l ((s, .bool true) :: env) m1 K) (h2 : RefL P n ops l ((s, .bool false) :: env) m2 K) :
    RefL P n ops l env (if b = true then m1 else m2) K := by
  intro w Q hm a hs
  cases b with
  | true => simp only [if_true] at hm; exact h1 w Q hm a (hs.named hb)
  | false => simp at hm; exact h2 w Q hm a (hs.named hb)
theorem wpList_append {l1 l2 : List Oper} {Q1 Q2 : Exit → Act → World → Prop} (hq : ∀ a w, Q1 .normal a w → wpList P ops Q2 l2 a w) (hp : ∀ c a w, Q1 (.panic c) a w → Q2 (.panic c) a w) (ho : LetsOut Q1 → LetsOut Q2) : ∀ a w, wpList P ops Q1 l1 a w → wpList P ops Q2 (l1 ++ l2) a w := by
  induction l1 with
  | nil => intro a w h; exact hq a w h
  | cons o l1 ih =>
    intro a w h
    simp only [List.cons_append, wpList] at h ⊢
    split
    · rename_i hw
      rw [if_pos hw] at h
      rcases h with h | ⟨h, hl⟩
      · refine .inl ?_
        unfold Oper.wp at *
        generalize (execOp a.eval o).run P w = res at *
        cases res with
        | ok x w2 =>
          cases x <;> simp only [Oper.upon] at h ⊢ <;>
            first
              | exact ih _ _ h
              | exact Calls.mono h (fun e w'' he => by cases e <;> first | exact ih _ _ he | exact hp _ _ _ he | exact ho he)
              | exact Rows.mono h (fun _ _ he => ih _ _ he)
        | halt x w2 => cases x <;> simp only [Oper.upon] at h ⊢ <;> exact hp _ _ _ h
      · exact .inr ⟨h, ho hl⟩
    · rename_i hw; rw [if_neg hw] at h; exact ih _ _ h
/-- a part of a region told apart from what follows -/
theorem RefL.cut {σ : Type} {l : List Oper} {m1 : G σ} {m2 : σ → G ρ} {enc : σ → Env} (k : Nat) (h1 : RefL P n ops (l.take k) env m1 (KEnd n enc)) (h2 : ∀ s, RefL P n ops (l.drop k) (enc s) (m2 s) K) : RefL P n ops l env (bnd m1 m2) K := by
  intro w Q hm a hs
  have h3 := wpList_append (l2 := l.drop k) (Q2 := K Q) (fun a' w'' hk => by obtain ⟨_, s, hs', hq⟩ := hk; exact h2 s _ Q hq a' hs') (fun c a' w'' hk => by have := hk.1; simp at this) (fun ⟨a', w'', hk⟩ => by have := hk.1; simp at this) a w (h1 w _ hm a hs)
  rw [List.take_append_drop] at h3
  exact h3
/-- a value given a name -/
theorem RefL.lt {α : Type} {l : List Oper} {v : α} {f : α → G ρ} (s : Nat) (enc : α → Value) (hg : env.get s = some (enc v)) (h : ∀ y, RefL P n ops l ((s, enc y) :: env) (f y) K) : RefL P n ops l env (Lg.lt v f) K :=
  fun w Q hm a hs => h v w Q hm a (hs.named hg)
theorem RefL.chk {l : List Oper} {c : Prop} {f : G ρ} (h : c → RefL P n ops l env f K) : RefL P n ops l env (Lg.chk c f) K := fun w Q hm a hs => h hm.1 w Q hm.2 a hs

theorem RanP.move {v : Value} (hx : env.ev x = some v) : RanP P env ⟨d, .move x, ty, pos, af, g⟩ v := fun u ρ h => by
  simp [execOp, h _ _ hx]
theorem RanP.assign {v : Value} (hx : env.ev x = some v) : RanP P env ⟨d, .assign x, ty, pos, af, g⟩ v := fun u ρ h => by
  simp [execOp, h _ _ hx]
theorem RanP.pickT {v : Value} (hx : env.ev x = some (.bool true)) (hy : env.ev y = some v) : RanP P env ⟨d, .pick x y z, ty, pos, af, g⟩ v := fun u ρ h => by
  simp [execOp, h _ _ hx, h _ _ hy, asBool]
theorem RanP.pickF {v : Value} (hx : env.ev x = some (.bool false)) (hz : env.ev z = some v) : RanP P env ⟨d, .pick x y z, ty, pos, af, g⟩ v := fun u ρ h => by
  simp [execOp, h _ _ hx, h _ _ hz, asBool]
theorem RanP.nilCheck {a : Addr} (hx : env.ev x = some (.pointer (some a))) : RanP P env ⟨d, .nilCheck x, ty, pos, af, g⟩ (.pointer (some a)) := fun u ρ h => by
  simp [execOp, h _ _ hx]
theorem RanP.nilCheckF {f : FuncId} {a b : Array Value} (hx : env.ev x = some (.func (.func f) a b)) : RanP P env ⟨d, .nilCheck x, ty, pos, af, g⟩ (.func (.func f) a b) := fun u ρ h => by
  simp [execOp, h _ _ hx]
theorem RanP.fieldAddr {a : Addr} {f off : Nat} (hF : ∀ a w, (Instr.fieldAt T (.pointer (some a)) f).run P w = .ok (.pointer (some (a.add off))) w) (hx : env.ev x = some (.pointer (some a))) : RanP P env ⟨d, .fieldAddr T x f, ty, pos, af, g⟩ (.pointer (some (a.add off))) := fun u ρ h => by
  simp [execOp, h _ _ hx, hF]
theorem RanP.field {f : Nat} {v u : Value} (hF : ∀ w, (Instr.field T v f).run P w = .ok u w) (hx : env.ev x = some v) : RanP P env ⟨d, .field T x f, ty, pos, af, g⟩ u := fun u ρ h => by
  simp [execOp, h _ _ hx, hF]
theorem RanP.extract {vs : Array Value} {i : Nat} {v : Value} (hx : env.ev x = some (.tuple vs)) (hv : vs[i]? = some v) : RanP P env ⟨d, .extract x i, ty, pos, af, g⟩ v := fun u ρ h => by
  simp [execOp, h _ _ hx, Instr.extract, hv]
def Env.evs (env : Env) : List Operand → Option (List Value)
  | [] => some []
  | x :: r => match env.ev x, env.evs r with | some v, some l => some (v :: l) | _, _ => none
theorem Env.evs_map {env : Env} {ρ : Operand → Value} (h : Agrees env ρ) : ∀ {l : List Operand} {vs : List Value}, env.evs l = some vs → l.map ρ = vs
  | [], vs, e => by simp [Env.evs] at e; simp [e]
  | x :: r, vs, e => by
    simp only [Env.evs] at e
    split at e
    · rename_i v l hv hl
      simp at e; subst e
      simp [h _ _ hv, Env.evs_map h hl]
    · simp at e
def Env.evParts (env : Env) : List (Nat × Operand) → Option (List (Nat × Value))
  | [] => some []
  | (i, x) :: r => match env.ev x, env.evParts r with | some v, some l => some ((i, v) :: l) | _, _ => none
theorem Env.evParts_map {env : Env} {ρ : Operand → Value} (h : Agrees env ρ) : ∀ {l : List (Nat × Operand)} {vs : List (Nat × Value)}, env.evParts l = some vs → l.map (fun (i, x) => (i, ρ x)) = vs
  | [], vs, e => by simp [Env.evParts] at e; simp [e]
  | (i, x) :: r, vs, e => by
    simp only [Env.evParts] at e
    split at e
    · rename_i v l hv hl
      simp at e; subst e
      simp [h _ _ hv, Env.evParts_map h hl]
    · simp at e
theorem RanP.build {l : List (Nat × Operand)} {vs : List (Nat × Value)} {v : Value} (hl : env.evParts l = some vs) (hb : ∀ w, (Instr.build T vs.toArray).run P w = .ok v w) : RanP P env ⟨d, .build T l.toArray, ty, pos, af, g⟩ v := fun u ρ h => by
  simp only [execOp, List.map_toArray, Env.evParts_map h hl, Sem.run_bind, hb, Result.andThen_ok, Sem.run_pure]
theorem RanP.makeFunc {f : Fn} {l1 l2 : List Operand} {v1 v2 : List Value} (h1 : env.evs l1 = some v1) (h2 : env.evs l2 = some v2) : RanP P env ⟨d, .makeFunc f l1.toArray l2.toArray, ty, pos, af, g⟩ (.func f v1.toArray v2.toArray) := fun u ρ h => by
  simp [execOp, Env.evs_map h h1, Env.evs_map h h2, Instr.makeFunc]
theorem RanP.sem {o : Oper} {s : Sem Value} {v : Value} (hs : ∀ ρ, Agrees env ρ → execOp ρ o = (do pure (.value (← s)))) (hr : ∀ w, s.run P w = .ok v w) : RanP P env o v := fun u ρ h => by
  rw [hs ρ h]; simp [hr]

/-! #### numbers -/
def shlI (k : IntKind) (a b : Int) : Int := k.wrap (a * 2 ^ (min b.toNat k.bits))
def shrI (k : IntKind) (a b : Int) : Int := a.fdiv (2 ^ (min b.toNat k.bits))
def andI (k : IntKind) (a b : Int) : Int := k.wrap ((BitVec.ofInt k.bits a &&& BitVec.ofInt k.bits b).toNat : Int)
def orI (k : IntKind) (a b : Int) : Int := k.wrap ((BitVec.ofInt k.bits a ||| BitVec.ofInt k.bits b).toNat : Int)
def xorI (k : IntKind) (a b : Int) : Int := k.wrap ((BitVec.ofInt k.bits a ^^^ BitVec.ofInt k.bits b).toNat : Int)
section
variable {k k' : IntKind} {a b : Int}
theorem RanP.add (hx : env.ev x = some (.int k a)) (hy : env.ev y = some (.int k b)) : RanP P env ⟨d, .binOp .add T x y T', ty, pos, af, g⟩ (.int k (k.wrap (a + b))) := fun u ρ h => by
  simp [execOp, h _ _ hx, h _ _ hy, eqGuard, binOp, Op.intArith]
theorem RanP.sub (hx : env.ev x = some (.int k a)) (hy : env.ev y = some (.int k b)) : RanP P env ⟨d, .binOp .sub T x y T', ty, pos, af, g⟩ (.int k (k.wrap (a - b))) := fun u ρ h => by
  simp [execOp, h _ _ hx, h _ _ hy, eqGuard, binOp, Op.intArith]
theorem RanP.mul (hx : env.ev x = some (.int k a)) (hy : env.ev y = some (.int k b)) : RanP P env ⟨d, .binOp .mul T x y T', ty, pos, af, g⟩ (.int k (k.wrap (a * b))) := fun u ρ h => by
  simp [execOp, h _ _ hx, h _ _ hy, eqGuard, binOp, Op.intArith]
theorem RanP.quo (hb : b ≠ 0) (hx : env.ev x = some (.int k a)) (hy : env.ev y = some (.int k b)) : RanP P env ⟨d, .binOp .quo T x y T', ty, pos, af, g⟩ (.int k (k.wrap (a.tdiv b))) := fun u ρ h => by
  simp [execOp, h _ _ hx, h _ _ hy, eqGuard, binOp, Op.intDiv, hb]
theorem RanP.rem (hb : b ≠ 0) (hx : env.ev x = some (.int k a)) (hy : env.ev y = some (.int k b)) : RanP P env ⟨d, .binOp .rem T x y T', ty, pos, af, g⟩ (.int k (a.tmod b)) := fun u ρ h => by
  simp [execOp, h _ _ hx, h _ _ hy, eqGuard, binOp, Op.intDiv, hb]
theorem RanP.and (hx : env.ev x = some (.int k a)) (hy : env.ev y = some (.int k b)) : RanP P env ⟨d, .binOp .and T x y T', ty, pos, af, g⟩ (.int k (andI k a b)) := fun u ρ h => by
  simp [execOp, h _ _ hx, h _ _ hy, eqGuard, binOp, Op.intBits, andI]
theorem RanP.or (hx : env.ev x = some (.int k a)) (hy : env.ev y = some (.int k b)) : RanP P env ⟨d, .binOp .or T x y T', ty, pos, af, g⟩ (.int k (orI k a b)) := fun u ρ h => by
  simp [execOp, h _ _ hx, h _ _ hy, eqGuard, binOp, Op.intBits, orI]
theorem RanP.xor (hx : env.ev x = some (.int k a)) (hy : env.ev y = some (.int k b)) : RanP P env ⟨d, .binOp .xor T x y T', ty, pos, af, g⟩ (.int k (xorI k a b)) := fun u ρ h => by
  simp [execOp, h _ _ hx, h _ _ hy, eqGuard, binOp, Op.intBits, xorI]
theorem RanP.shl (hb : 0 ≤ b) (hx : env.ev x = some (.int k a)) (hy : env.ev y = some (.int k' b)) : RanP P env ⟨d, .binOp .shl T x y T', ty, pos, af, g⟩ (.int k (shlI k a b)) := fun u ρ h => by
  simp [execOp, h _ _ hx, h _ _ hy, eqGuard, binOp, Op.shift, shlI, Int.not_lt.2 hb]
theorem RanP.shr (hb : 0 ≤ b) (hx : env.ev x = some (.int k a)) (hy : env.ev y = some (.int k' b)) : RanP P env ⟨d, .binOp .shr T x y T', ty, pos, af, g⟩ (.int k (shrI k a b)) := fun u ρ h => by
  simp [execOp, h _ _ hx, h _ _ hy, eqGuard, binOp, Op.shift, shrI, Int.not_lt.2 hb]
theorem RanP.eql (hx : env.ev x = some (.int k a)) (hy : env.ev y = some (.int k b)) : RanP P env ⟨d, .binOp .eql T x y T', ty, pos, af, g⟩ (.bool (a == b)) := fun u ρ h => by
  simp [execOp, h _ _ hx, h _ _ hy, eqGuard, binOp, Op.intCmp]
theorem RanP.neq (hx : env.ev x = some (.int k a)) (hy : env.ev y = some (.int k b)) : RanP P env ⟨d, .binOp .neq T x y T', ty, pos, af, g⟩ (.bool (a != b)) := fun u ρ h => by
  simp [execOp, h _ _ hx, h _ _ hy, eqGuard, binOp, Op.intCmp]
theorem RanP.lss (hx : env.ev x = some (.int k a)) (hy : env.ev y = some (.int k b)) : RanP P env ⟨d, .binOp .lss T x y T', ty, pos, af, g⟩ (.bool (decide (a < b))) := fun u ρ h => by
  simp [execOp, h _ _ hx, h _ _ hy, eqGuard, binOp, Op.intCmp]
theorem RanP.leq (hx : env.ev x = some (.int k a)) (hy : env.ev y = some (.int k b)) : RanP P env ⟨d, .binOp .leq T x y T', ty, pos, af, g⟩ (.bool (decide (a ≤ b))) := fun u ρ h => by
  simp [execOp, h _ _ hx, h _ _ hy, eqGuard, binOp, Op.intCmp]
theorem RanP.gtr (hx : env.ev x = some (.int k a)) (hy : env.ev y = some (.int k b)) : RanP P env ⟨d, .binOp .gtr T x y T', ty, pos, af, g⟩ (.bool (decide (b < a))) := fun u ρ h => by
  simp [execOp, h _ _ hx, h _ _ hy, eqGuard, binOp, Op.intCmp]
theorem RanP.geq (hx : env.ev x = some (.int k a)) (hy : env.ev y = some (.int k b)) : RanP P env ⟨d, .binOp .geq T x y T', ty, pos, af, g⟩ (.bool (decide (b ≤ a))) := fun u ρ h => by
  simp [execOp, h _ _ hx, h _ _ hy, eqGuard, binOp, Op.intCmp]
theorem RanP.conv {src dst : TypeId} {e : TypeDesc} (hs : P.underlying src = some e) (hd : P.underlying dst = some (.int k')) (hx : env.ev x = some (.int k a)) : RanP P env ⟨d, .convert src dst x, ty, pos, af, g⟩ (.int k' (k'.wrap a)) := fun u ρ h => by
  simp [execOp, h _ _ hx, convert, run_underlying hs, run_underlying hd, Conv.intToInt]
end
theorem RanP.not {b : Bool} (hx : env.ev x = some (.bool b)) : RanP P env ⟨d, .unOp .not T x, ty, pos, af, g⟩ (.bool (!b)) := fun u ρ h => by
  simp [execOp, h _ _ hx, Op.unary]
theorem run_eqB {T : TypeId} {a b : Bool} {w : World} (hT : P.underlying T = some .bool) : (Op.equal T (.bool a) (.bool b)).run P w = .ok (a == b) w := run_equal_bool w T a b hT
theorem run_eqP {T e : TypeId} {p : Option Addr} {w : World} (hT : P.underlying T = some (.pointer e)) : (Op.equal T (.pointer p) (.pointer none)).run P w = .ok p.isNone w := by
  refine run_equal_pointer_nil w T p ?_
  rw [hT]; simp [Program.pointee, hT]
theorem RanP.eqlB {a b : Bool} (hT : P.underlying T = some .bool) (hx : env.ev x = some (.bool a)) (hy : env.ev y = some (.bool b)) : RanP P env ⟨d, .binOp .eql T x y T', ty, pos, af, g⟩ (.bool (a == b)) := fun u ρ h => by
  simp only [execOp, h _ _ hx, h _ _ hy, eqGuard_at_bool, binOp, Sem.run_bind, Sem.run_pure, Result.andThen_ok, run_eqB hT]
theorem RanP.neqB {a b : Bool} (hT : P.underlying T = some .bool) (hx : env.ev x = some (.bool a)) (hy : env.ev y = some (.bool b)) : RanP P env ⟨d, .binOp .neq T x y T', ty, pos, af, g⟩ (.bool (!(a == b))) := fun u ρ h => by
  simp only [execOp, h _ _ hx, h _ _ hy, eqGuard_at_bool, binOp, Sem.run_bind, Sem.run_pure, Result.andThen_ok, run_eqB hT]
theorem RanP.eqlNil {p : Option Addr} {e : TypeId} (hT : P.underlying T = some (.pointer e)) (hx : env.ev x = some (.pointer p)) (hy : env.ev y = some (.pointer none)) : RanP P env ⟨d, .binOp .eql T x y T', ty, pos, af, g⟩ (.bool p.isNone) := fun u ρ h => by
  simp only [execOp, h _ _ hx, h _ _ hy, eqGuard_at_pointer, binOp, Sem.run_bind, Sem.run_pure, Result.andThen_ok, run_eqP hT]
theorem RanP.neqNil {p : Option Addr} {e : TypeId} (hT : P.underlying T = some (.pointer e)) (hx : env.ev x = some (.pointer p)) (hy : env.ev y = some (.pointer none)) : RanP P env ⟨d, .binOp .neq T x y T', ty, pos, af, g⟩ (.bool (!p.isNone)) := fun u ρ h => by
  simp only [execOp, h _ _ hx, h _ _ hy, eqGuard_at_pointer, binOp, Sem.run_bind, Sem.run_pure, Result.andThen_ok, run_eqP hT]

theorem RanP.eqlA {xs ys : Array Value} {b : Bool} (hr : ∀ ox oy w, ((do eqGuard .eql T ox oy (.agg xs) (.agg ys); binOp .eql T (.agg xs) (.agg ys)) : Sem Value).run P w = .ok (.bool b) w) (hx : env.ev x = some (.agg xs)) (hy : env.ev y = some (.agg ys)) : RanP P env ⟨d, .binOp .eql T x y T', ty, pos, af, g⟩ (.bool b) := fun u ρ h => by
  have := hr x y u
  simp only [execOp, h _ _ hx, h _ _ hy]
  rw [Sem.run_bind, this]; rfl
theorem RanP.neqA {xs ys : Array Value} {b : Bool} (hr : ∀ ox oy w, ((do eqGuard .neq T ox oy (.agg xs) (.agg ys); binOp .neq T (.agg xs) (.agg ys)) : Sem Value).run P w = .ok (.bool (!b)) w) (hx : env.ev x = some (.agg xs)) (hy : env.ev y = some (.agg ys)) : RanP P env ⟨d, .binOp .neq T x y T', ty, pos, af, g⟩ (.bool (!b)) := fun u ρ h => by
  have := hr x y u
  simp only [execOp, h _ _ hx, h _ _ hy]
  rw [Sem.run_bind, this]; rfl

def nth (l : List Int) (i : Int) : Int := l.getD i.toNat 0
theorem RanP.indexA {l : List Int} {k k' : IntKind} {i : Int} {len : Nat} {e : TypeId} {xs : Array Value} (hi : 0 ≤ i ∧ i < (len : Int)) (hl : xs = (l.map (Value.int k)).toArray) (hlen : l.length = len) (hT : P.underlying T = some (.array len e)) (ha : ∀ w, (isAgg e).run P w = .ok false w) (hz : ∀ w, (sizeOf e).run P w = .ok 1 w) (hx : env.ev x = some (.agg xs)) (hy : env.ev y = some (.int k' i)) : RanP P env ⟨d, .index T x y, ty, pos, af, g⟩ (.int k (nth l i)) := fun u ρ h => by
  have hlt : i.toNat < l.length := by omega
  subst hl
  simp [execOp, h _ _ hx, h _ _ hy, Instr.index, asIntOf, run_underlying hT, hi.1, hi.2, hz, part, ha, hlt, nth, List.getD]

/-! #### strings -/
def sEq (s t : ByteArray) : Bool := s.toList == t.toList
section
variable {s t : ByteArray}
theorem RanP.eqlS (hx : env.ev x = some (.string s)) (hy : env.ev y = some (.string t)) : RanP P env ⟨d, .binOp .eql T x y T', ty, pos, af, g⟩ (.bool (sEq s t)) := fun u ρ h => by
  simp [execOp, h _ _ hx, h _ _ hy, eqGuard, binOp, Op.stringOp, sEq]
theorem RanP.neqS (hx : env.ev x = some (.string s)) (hy : env.ev y = some (.string t)) : RanP P env ⟨d, .binOp .neq T x y T', ty, pos, af, g⟩ (.bool (!sEq s t)) := fun u ρ h => by
  simp [execOp, h _ _ hx, h _ _ hy, eqGuard, binOp, Op.stringOp, sEq]
theorem RanP.addS (hl : s.size + t.size ≤ 9223372036854775807) (hx : env.ev x = some (.string s)) (hy : env.ev y = some (.string t)) : RanP P env ⟨d, .binOp .add T x y T', ty, pos, af, g⟩ (.string (s ++ t)) := fun u ρ h => by
  have e : ¬ (((s.size + t.size : Nat) : Int) > IntKind.i64.max) := by rw [IntKind.max_i64]; omega
  simp only [execOp, h _ _ hx, h _ _ hy, eqGuard, binOp, Op.stringOp, Sem.run_bind, Sem.run_pure, Result.andThen_ok, if_neg e]
  simp
theorem RanP.indexS {k : IntKind} {i : Int} (hi : 0 ≤ i ∧ i < s.size) (hT : P.underlying T = some .string) (hx : env.ev x = some (.string s)) (hy : env.ev y = some (.int k i)) : RanP P env ⟨d, .index T x y, ty, pos, af, g⟩ (.int .u8 (bt s i)) := fun u ρ h => by
  have hlt : i.toNat < s.size := by omega
  simp [execOp, h _ _ hx, h _ _ hy, Instr.index, asIntOf, run_underlying hT, hi.1, bt, hlt]
theorem RanP.lenS {ts : Array TypeId} (hT : ts = #[T]) (hu : P.underlying T = some .string) (hx : env.evs [x] = some [.string s]) : RanP P env ⟨d, .call ⟨.builtin .len, #[x], ts⟩, ty, pos, af, g⟩ (.int .i64 (s.size : Int)) := fun u ρ h => by
  have e : ρ x = .string s := by have := Env.evs_map h hx; simpa using this
  subst hT; simp [execOp, resolve, invoke, builtin, e, Builtin.len_, run_underlying hu, goInt]
end
theorem RanP.lenSl {ts : Array TypeId} {p : Option Addr} {l c : Nat} {e : TypeId} (hT : ts = #[T]) (hu : P.underlying T = some (.slice e)) (hx : env.evs [x] = some [.slice p l c]) : RanP P env ⟨d, .call ⟨.builtin .len, #[x], ts⟩, ty, pos, af, g⟩ (.int .i64 (l : Int)) := fun u ρ h => by
  have e : ρ x = .slice p l c := by have := Env.evs_map h hx; simpa using this
  subst hT; simp [execOp, resolve, invoke, builtin, e, Builtin.len_, run_underlying hu, goInt]
theorem RanP.capSl {ts : Array TypeId} {p : Option Addr} {l c : Nat} {e : TypeId} (hT : ts = #[T]) (hu : P.underlying T = some (.slice e)) (hx : env.evs [x] = some [.slice p l c]) : RanP P env ⟨d, .call ⟨.builtin .cap, #[x], ts⟩, ty, pos, af, g⟩ (.int .i64 (c : Int)) := fun u ρ h => by
  have e : ρ x = .slice p l c := by have := Env.evs_map h hx; simpa using this
  subst hT; simp [execOp, resolve, invoke, builtin, e, Builtin.cap_, run_underlying hu, goInt]
theorem RanP.min2 {ts : Array TypeId} {k : IntKind} {a b : Int} (hx : env.evs [x, y] = some [.int k a, .int k b]) : RanP P env ⟨d, .call ⟨.builtin .min, #[x, y], ts⟩, ty, pos, af, g⟩ (.int k (if b < a then b else a)) := fun u ρ h => by
  have e : ρ x = .int k a ∧ ρ y = .int k b := by have := Env.evs_map h hx; simpa using this
  simp [execOp, resolve, invoke, builtin, e.1, e.2, Builtin.min_, Builtin.min2]
theorem RanP.max2 {ts : Array TypeId} {k : IntKind} {a b : Int} (hx : env.evs [x, y] = some [.int k a, .int k b]) : RanP P env ⟨d, .call ⟨.builtin .max, #[x, y], ts⟩, ty, pos, af, g⟩ (.int k (if a < b then b else a)) := fun u ρ h => by
  have e : ρ x = .int k a ∧ ρ y = .int k b := by have := Env.evs_map h hx; simpa using this
  simp [execOp, resolve, invoke, builtin, e.1, e.2, Builtin.max_, Builtin.max2]
end
end Go.Lg

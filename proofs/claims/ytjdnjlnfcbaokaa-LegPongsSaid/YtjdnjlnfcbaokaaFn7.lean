/-
  Go functions as programs over the world, and that the model's code does what they say. Printed by gen.py (own work).
-/
import Derived.Test.YtjdnjlnfcbaokaaFn6
set_option linter.unusedVariables false
set_option linter.unusedSimpArgs false
namespace Go.Proofs.Ytjdnjlnfcbaokaa
open Go Go.Lg

def ref09_Control (K : Nat) (a0 : Int) : G (Bool) :=
  bnd (
    if (decide ((8 : Int) ≤ a0)) = true then
      ret (decide (a0 ≤ (10 : Int)))
    else
      ret false) fun (x1 : Bool) =>
  ret x1
set_option maxRecDepth 100000 in
theorem ref09_Control_ref (K : Nat) (a0 : Int) : Does Try.prog 81 [.int .i64 a0] (ref09_Control K a0) (fun r => .bool r) := by
  refine Does.of Try.func81 rfl rfl rfl ?_
  unfold ref09_Control
  refine RefC.seq ?_
  refine RefC.region ?_
  refine RefL.pure rfl rfl (RanP.assign rfl) ?_
  refine RefL.nil ?_
  refine RefE.next ?_
  refine RefC.seq ?_
  refine RefC.region ?_
  refine RefL.pure rfl rfl (RanP.move rfl) ?_
  refine RefL.pure rfl rfl (RanP.geq rfl rfl) ?_
  refine RefL.pure rfl rfl (RanP.move rfl) ?_
  refine RefL.cut (enc := fun (x1 : Bool) => ([(8, .bool x1)] : Env)) 3 ?_ ?_
  · refine RefL.ite (s := 5) rfl ?_ ?_
    · refine RefL.pure rfl rfl (RanP.move rfl) ?_
      refine RefL.pure rfl rfl (RanP.leq rfl rfl) ?_
      refine RefL.pure rfl rfl (RanP.pickT rfl rfl) ?_
      refine RefL.nil ?_
      exact RefE.fin (s := (decide (a0 ≤ (10 : Int)))) ⟨rfl, trivial⟩
    · refine RefL.skip rfl rfl ?_
      refine RefL.skip rfl rfl ?_
      refine RefL.pure rfl rfl (RanP.pickF rfl rfl) ?_
      refine RefL.nil ?_
      exact RefE.fin (s := false) ⟨rfl, trivial⟩
  · intro x1
    refine RefL.pure rfl rfl (RanP.assign rfl) ?_
    refine RefL.nil ?_
    refine RefE.next ?_
    refine RefC.ret ?_
    refine RefE.retV rfl ?_
    refine RefV.tmp rfl ?_
    exact RefV.nil rfl

def ref08_Get_l0 (K : Nat) (s4 : Int) (a0 : ByteArray) (again : (Int × Bool × Int) → G (Int ⊕ (Int × Int × Int))) (s44 : Int × Bool × Int) : G (Int ⊕ (Int × Int × Int)) :=
  if (decide (s44.2.2 < s4)) = true then
    if (decide ((a0.size : Int) ≤ (IntKind.wrap .i64 (s44.2.2 + (1 : Int))))) = true then
      inr (ret ((0 : Int), (0 : Int), (80 : Int)))
    else
      chk (0 ≤ (IntKind.wrap .i64 (s44.2.2 + (1 : Int))) ∧ (IntKind.wrap .i64 (s44.2.2 + (1 : Int))) < (a0.size : Int)) <|
      lt (bt a0 (IntKind.wrap .i64 (s44.2.2 + (1 : Int)))) fun x46 =>
      bnd (
        if (s4 == (8 : Int)) = true then
          ret (s44.2.2 == (0 : Int))
        else
          ret false) fun (x47 : Bool) =>
      bnd (
        if x47 = true then
          ret (decide ((128 : Int) ≤ x46))
        else
          ret false) fun (x48 : Bool) =>
      if x48 = true then
        inr (ret ((0 : Int), (0 : Int), (81 : Int)))
      else
        bnd (
          if s44.2.1 = true then
            ret (x46 == (0 : Int))
          else
            ret false) fun (x49 : Bool) =>
        lt (IntKind.wrap .u64 ((IntKind.wrap .u64 ((256 : Int) * s44.1)) + (IntKind.wrap .u64 x46))) fun x50 =>
        bnd (
          if (s4 == (8 : Int)) = true then
            ret (s44.2.2 == (5 : Int))
          else
            ret false) fun (x51 : Bool) =>
        bnd (
          if x51 = true then
            ret x49
          else
            ret false) fun (x52 : Bool) =>
        bnd (
          if x52 = true then
            ret true
          else
            bnd (
              if (s4 == (2 : Int)) = true then
                ret (s44.2.2 == (1 : Int))
              else
                ret false) fun (x54 : Bool) =>
            bnd (
              if x54 = true then
                ret (decide (x50 < (126 : Int)))
              else
                ret false) fun (x55 : Bool) =>
            ret x55) fun (x53 : Bool) =>
        if x53 = true then
          inr (ret ((0 : Int), (0 : Int), (81 : Int)))
        else
          lt (IntKind.wrap .i64 (s44.2.2 + (1 : Int))) fun x56 =>
          again (x50, x49, x56)
  else
    ret (.inl (s44.1))
def ref08_Get (K : Nat) (a0 : ByteArray) : G (Int × Int × Int) :=
  if ((a0.size : Int) == (0 : Int)) = true then
    ret ((0 : Int), (0 : Int), (80 : Int))
  else
    chk (0 ≤ (0 : Int) ∧ (0 : Int) < (a0.size : Int)) <|
    lt (Int.tmod (bt a0 (0 : Int)) (128 : Int)) fun x2 =>
    if (decide (x2 < (126 : Int))) = true then
      lt (IntKind.wrap .u64 x2) fun x3 =>
      ret (x3, (1 : Int), (0 : Int))
    else
      bnd (
        if (x2 == (127 : Int)) = true then
          ret ((8 : Int))
        else
          ret ((2 : Int))) fun (s4 : Int) =>
      bnd (
        loopG (ref08_Get_l0 K s4 a0) K ((0 : Int), true, (0 : Int))) (sumK fun (s57 : Int) =>
      lt (IntKind.wrap .i64 ((1 : Int) + s4)) fun x58 =>
      ret (s57, x58, (0 : Int)))
set_option maxRecDepth 100000 in
theorem ref08_Get_ref (K : Nat) (a0 : ByteArray) : Does Try.prog 82 [.string a0] (ref08_Get K a0) (fun r => .tuple #[.int .u64 r.1, .int .i64 r.2.1, .int .i64 r.2.2]) := by
  refine Does.of Try.func82 rfl rfl rfl ?_
  unfold ref08_Get
  refine RefC.seq ?_
  refine RefC.region ?_
  refine RefL.pure rfl rfl (RanP.assign rfl) ?_
  refine RefL.pure rfl rfl (RanP.assign rfl) ?_
  refine RefL.pure rfl rfl (RanP.assign rfl) ?_
  refine RefL.nil ?_
  refine RefE.next ?_
  refine RefC.seq ?_
  refine RefC.seq ?_
  refine RefC.region ?_
  refine RefL.pure rfl rfl (RanP.move rfl) ?_
  refine RefL.pure rfl rfl (RanP.lenS rfl Try.underlying9 rfl) ?_
  refine RefL.pure rfl rfl (RanP.eql rfl rfl) ?_
  refine RefL.nil ?_
  refine RefE.next ?_
  refine RefC.cond rfl ?_ ?_
  · refine RefC.seq ?_
    refine RefC.region ?_
    refine RefL.pure rfl rfl (RanP.assign rfl) ?_
    refine RefL.pure rfl rfl (RanP.assign rfl) ?_
    refine RefL.pure rfl rfl (RanP.assign rfl) ?_
    refine RefL.nil ?_
    refine RefE.next ?_
    refine RefC.ret ?_
    refine RefE.thenRet ?_
    refine RefE.retV rfl ?_
    refine RefV.tmp rfl ?_
    refine RefV.tmp rfl ?_
    refine RefV.tmp rfl ?_
    exact RefV.nil rfl
  · refine RefC.skip ?_
    refine RefE.next ?_
    refine RefC.seq ?_
    refine RefC.region ?_
    refine RefL.pure rfl rfl (RanP.move rfl) ?_
    refine RefL.chk fun h1 => ?_
    refine RefL.pure rfl rfl (RanP.indexS h1 Try.underlying9 rfl rfl) ?_
    refine RefL.pure rfl rfl (RanP.rem (by decide) rfl rfl) ?_
    refine RefL.pure rfl rfl (RanP.assign rfl) ?_
    refine RefL.lt 5 (fun y => .int .u8 y) rfl fun x2 => ?_
    refine RefL.nil ?_
    refine RefE.next ?_
    refine RefC.seq ?_
    refine RefC.seq ?_
    refine RefC.region ?_
    refine RefL.pure rfl rfl (RanP.move rfl) ?_
    refine RefL.pure rfl rfl (RanP.lss rfl rfl) ?_
    refine RefL.nil ?_
    refine RefE.next ?_
    refine RefC.cond rfl ?_ ?_
    · refine RefC.seq ?_
      refine RefC.region ?_
      refine RefL.pure rfl rfl (RanP.move rfl) ?_
      refine RefL.pure rfl rfl (RanP.conv Try.underlying5 Try.underlying133 rfl) ?_
      refine RefL.pure rfl rfl (RanP.assign rfl) ?_
      refine RefL.lt 2 (fun y => .int .u64 y) rfl fun x3 => ?_
      refine RefL.pure rfl rfl (RanP.assign rfl) ?_
      refine RefL.pure rfl rfl (RanP.assign rfl) ?_
      refine RefL.nil ?_
      refine RefE.next ?_
      refine RefC.ret ?_
      refine RefE.thenRet ?_
      refine RefE.retV rfl ?_
      refine RefV.tmp rfl ?_
      refine RefV.tmp rfl ?_
      refine RefV.tmp rfl ?_
      exact RefV.nil rfl
    · refine RefC.skip ?_
      refine RefE.next ?_
      refine RefC.seq ?_
      refine RefC.region ?_
      refine RefL.pure rfl rfl (RanP.assign rfl) ?_
      refine RefL.nil ?_
      refine RefE.next ?_
      refine RefC.seq ?_
      refine RefC.seq ?_
      refine RefC.region ?_
      refine RefL.pure rfl rfl (RanP.move rfl) ?_
      refine RefL.pure rfl rfl (RanP.eql rfl rfl) ?_
      refine RefL.nil ?_
      refine RefE.next ?_
      refine RefC.cut (enc := fun (s4 : Int) => ([(6, .int .i64 s4), (0, .string a0)] : Env)) ?_ ?_
      · refine RefC.cond rfl ?_ ?_
        · refine RefC.region ?_
          refine RefL.pure rfl rfl (RanP.assign rfl) ?_
          refine RefL.nil ?_
          exact RefE.fin (s := ((8 : Int))) ⟨rfl, rfl, trivial⟩
        · refine RefC.skip ?_
          exact RefE.fin (s := ((2 : Int))) ⟨rfl, rfl, trivial⟩
      · intro s4
        refine RefE.next ?_
        refine RefC.seq ?_
        refine RefC.region ?_
        refine RefL.pure rfl rfl (RanP.assign rfl) ?_
        refine RefL.nil ?_
        refine RefE.next ?_
        refine RefC.seq ?_
        refine RefC.region ?_
        refine RefL.pure rfl rfl (RanP.assign rfl) ?_
        refine RefL.nil ?_
        refine RefE.next ?_
        refine RefC.seq ?_
        refine RefC.seq ?_
        refine RefC.region ?_
        refine RefL.pure rfl rfl (RanP.assign rfl) ?_
        refine RefL.nil ?_
        refine RefE.next ?_
        refine RefC.cutSum (enc := fun (s57 : Int) => ([(7, .int .u64 s57), (6, .int .i64 s4)] : Env)) (KThen.mono KRet.mono) ?_ ?_
        · refine RefC.block ?_
          refine RefC.loopW (enc := fun (s44 : Int × Bool × Int) => ([(7, .int .u64 s44.1), (8, .bool s44.2.1), (9, .int .i64 s44.2.2), (0, .string a0), (6, .int .i64 s4)] : Env)) ⟨rfl, rfl, rfl, rfl, rfl, trivial⟩ ?_ _
          intro again k ih s44
          unfold ref08_Get_l0
          refine RefC.seq ?_
          refine RefC.seq ?_
          refine RefC.region ?_
          refine RefL.pure rfl rfl (RanP.move rfl) ?_
          refine RefL.pure rfl rfl (RanP.move rfl) ?_
          refine RefL.pure rfl rfl (RanP.lss rfl rfl) ?_
          refine RefL.nil ?_
          refine RefE.next ?_
          refine RefC.cond rfl ?_ ?_
          · refine RefC.skip ?_
            refine RefE.next ?_
            refine RefC.seq ?_
            refine RefC.block ?_
            refine RefC.seq ?_
            refine RefC.seq ?_
            refine RefC.region ?_
            refine RefL.pure rfl rfl (RanP.move rfl) ?_
            refine RefL.pure rfl rfl (RanP.add rfl rfl) ?_
            refine RefL.pure rfl rfl (RanP.move rfl) ?_
            refine RefL.pure rfl rfl (RanP.lenS rfl Try.underlying9 rfl) ?_
            refine RefL.pure rfl rfl (RanP.geq rfl rfl) ?_
            refine RefL.nil ?_
            refine RefE.next ?_
            refine RefC.cond rfl ?_ ?_
            · refine RefC.seq ?_
              refine RefC.region ?_
              refine RefL.pure rfl rfl (RanP.assign rfl) ?_
              refine RefL.pure rfl rfl (RanP.assign rfl) ?_
              refine RefL.pure rfl rfl (RanP.assign rfl) ?_
              refine RefL.nil ?_
              refine RefE.next ?_
              refine RefC.ret ?_
              refine RefE.thenRet ?_
              refine RefE.blockRet ?_
              refine RefE.thenRet ?_
              refine RefE.roundRet ?_
              refine RefE.blockRet ?_
              refine RefE.finR ?_
              refine RefE.thenRet ?_
              refine RefE.retV rfl ?_
              refine RefV.tmp rfl ?_
              refine RefV.tmp rfl ?_
              refine RefV.tmp rfl ?_
              exact RefV.nil rfl
            · refine RefC.skip ?_
              refine RefE.next ?_
              refine RefC.seq ?_
              refine RefC.region ?_
              refine RefL.pure rfl rfl (RanP.move rfl) ?_
              refine RefL.pure rfl rfl (RanP.move rfl) ?_
              refine RefL.pure rfl rfl (RanP.add rfl rfl) ?_
              refine RefL.chk fun h45 => ?_
              refine RefL.pure rfl rfl (RanP.indexS h45 Try.underlying9 rfl rfl) ?_
              refine RefL.pure rfl rfl (RanP.assign rfl) ?_
              refine RefL.lt 10 (fun y => .int .u8 y) rfl fun x46 => ?_
              refine RefL.nil ?_
              refine RefE.next ?_
              refine RefC.seq ?_
              refine RefC.seq ?_
              refine RefC.region ?_
              refine RefL.pure rfl rfl (RanP.move rfl) ?_
              refine RefL.pure rfl rfl (RanP.eql rfl rfl) ?_
              refine RefL.pure rfl rfl (RanP.move rfl) ?_
              refine RefL.cut (enc := fun (x47 : Bool) => ([(42, .bool x47), (0, .string a0), (6, .int .i64 s4), (7, .int .u64 s44.1), (8, .bool s44.2.1), (9, .int .i64 s44.2.2), (10, .int .u8 x46)] : Env)) 3 ?_ ?_
              · refine RefL.ite (s := 39) rfl ?_ ?_
                · refine RefL.pure rfl rfl (RanP.move rfl) ?_
                  refine RefL.pure rfl rfl (RanP.eql rfl rfl) ?_
                  refine RefL.pure rfl rfl (RanP.pickT rfl rfl) ?_
                  refine RefL.nil ?_
                  exact RefE.fin (s := (s44.2.2 == (0 : Int))) ⟨rfl, rfl, rfl, rfl, rfl, rfl, rfl, trivial⟩
                · refine RefL.skip rfl rfl ?_
                  refine RefL.skip rfl rfl ?_
                  refine RefL.pure rfl rfl (RanP.pickF rfl rfl) ?_
                  refine RefL.nil ?_
                  exact RefE.fin (s := false) ⟨rfl, rfl, rfl, rfl, rfl, rfl, rfl, trivial⟩
              · intro x47
                refine RefL.pure rfl rfl (RanP.move rfl) ?_
                refine RefL.cut (enc := fun (x48 : Bool) => ([(46, .bool x48), (0, .string a0), (6, .int .i64 s4), (7, .int .u64 s44.1), (8, .bool s44.2.1), (9, .int .i64 s44.2.2), (10, .int .u8 x46)] : Env)) 3 ?_ ?_
                · refine RefL.ite (s := 43) rfl ?_ ?_
                  · refine RefL.pure rfl rfl (RanP.move rfl) ?_
                    refine RefL.pure rfl rfl (RanP.geq rfl rfl) ?_
                    refine RefL.pure rfl rfl (RanP.pickT rfl rfl) ?_
                    refine RefL.nil ?_
                    exact RefE.fin (s := (decide ((128 : Int) ≤ x46))) ⟨rfl, rfl, rfl, rfl, rfl, rfl, rfl, trivial⟩
                  · refine RefL.skip rfl rfl ?_
                    refine RefL.skip rfl rfl ?_
                    refine RefL.pure rfl rfl (RanP.pickF rfl rfl) ?_
                    refine RefL.nil ?_
                    exact RefE.fin (s := false) ⟨rfl, rfl, rfl, rfl, rfl, rfl, rfl, trivial⟩
                · intro x48
                  refine RefL.nil ?_
                  refine RefE.next ?_
                  refine RefC.cond rfl ?_ ?_
                  · refine RefC.seq ?_
                    refine RefC.region ?_
                    refine RefL.pure rfl rfl (RanP.assign rfl) ?_
                    refine RefL.pure rfl rfl (RanP.assign rfl) ?_
                    refine RefL.pure rfl rfl (RanP.assign rfl) ?_
                    refine RefL.nil ?_
                    refine RefE.next ?_
                    refine RefC.ret ?_
                    refine RefE.thenRet ?_
                    refine RefE.blockRet ?_
                    refine RefE.thenRet ?_
                    refine RefE.roundRet ?_
                    refine RefE.blockRet ?_
                    refine RefE.finR ?_
                    refine RefE.thenRet ?_
                    refine RefE.retV rfl ?_
                    refine RefV.tmp rfl ?_
                    refine RefV.tmp rfl ?_
                    refine RefV.tmp rfl ?_
                    exact RefV.nil rfl
                  · refine RefC.skip ?_
                    refine RefE.next ?_
                    refine RefC.seq ?_
                    refine RefC.region ?_
                    refine RefL.pure rfl rfl (RanP.move rfl) ?_
                    refine RefL.pure rfl rfl (RanP.move rfl) ?_
                    refine RefL.cut (enc := fun (x49 : Bool) => ([(51, .bool x49), (0, .string a0), (6, .int .i64 s4), (7, .int .u64 s44.1), (9, .int .i64 s44.2.2), (10, .int .u8 x46)] : Env)) 3 ?_ ?_
                    · refine RefL.ite (s := 48) rfl ?_ ?_
                      · refine RefL.pure rfl rfl (RanP.move rfl) ?_
                        refine RefL.pure rfl rfl (RanP.eql rfl rfl) ?_
                        refine RefL.pure rfl rfl (RanP.pickT rfl rfl) ?_
                        refine RefL.nil ?_
                        exact RefE.fin (s := (x46 == (0 : Int))) ⟨rfl, rfl, rfl, rfl, rfl, rfl, trivial⟩
                      · refine RefL.skip rfl rfl ?_
                        refine RefL.skip rfl rfl ?_
                        refine RefL.pure rfl rfl (RanP.pickF rfl rfl) ?_
                        refine RefL.nil ?_
                        exact RefE.fin (s := false) ⟨rfl, rfl, rfl, rfl, rfl, rfl, trivial⟩
                    · intro x49
                      refine RefL.pure rfl rfl (RanP.assign rfl) ?_
                      refine RefL.nil ?_
                      refine RefE.next ?_
                      refine RefC.seq ?_
                      refine RefC.region ?_
                      refine RefL.pure rfl rfl (RanP.move rfl) ?_
                      refine RefL.pure rfl rfl (RanP.mul rfl rfl) ?_
                      refine RefL.pure rfl rfl (RanP.move rfl) ?_
                      refine RefL.pure rfl rfl (RanP.conv Try.underlying5 Try.underlying133 rfl) ?_
                      refine RefL.pure rfl rfl (RanP.add rfl rfl) ?_
                      refine RefL.pure rfl rfl (RanP.assign rfl) ?_
                      refine RefL.lt 7 (fun y => .int .u64 y) rfl fun x50 => ?_
                      refine RefL.nil ?_
                      refine RefE.next ?_
                      refine RefC.seq ?_
                      refine RefC.region ?_
                      refine RefL.pure rfl rfl (RanP.move rfl) ?_
                      refine RefL.pure rfl rfl (RanP.eql rfl rfl) ?_
                      refine RefL.pure rfl rfl (RanP.move rfl) ?_
                      refine RefL.cut (enc := fun (x51 : Bool) => ([(62, .bool x51), (0, .string a0), (6, .int .i64 s4), (7, .int .u64 x50), (8, .bool x49), (9, .int .i64 s44.2.2)] : Env)) 3 ?_ ?_
                      · refine RefL.ite (s := 59) rfl ?_ ?_
                        · refine RefL.pure rfl rfl (RanP.move rfl) ?_
                          refine RefL.pure rfl rfl (RanP.eql rfl rfl) ?_
                          refine RefL.pure rfl rfl (RanP.pickT rfl rfl) ?_
                          refine RefL.nil ?_
                          exact RefE.fin (s := (s44.2.2 == (5 : Int))) ⟨rfl, rfl, rfl, rfl, rfl, rfl, trivial⟩
                        · refine RefL.skip rfl rfl ?_
                          refine RefL.skip rfl rfl ?_
                          refine RefL.pure rfl rfl (RanP.pickF rfl rfl) ?_
                          refine RefL.nil ?_
                          exact RefE.fin (s := false) ⟨rfl, rfl, rfl, rfl, rfl, rfl, trivial⟩
                      · intro x51
                        refine RefL.pure rfl rfl (RanP.move rfl) ?_
                        refine RefL.cut (enc := fun (x52 : Bool) => ([(65, .bool x52), (0, .string a0), (6, .int .i64 s4), (7, .int .u64 x50), (8, .bool x49), (9, .int .i64 s44.2.2)] : Env)) 2 ?_ ?_
                        · refine RefL.ite (s := 63) rfl ?_ ?_
                          · refine RefL.pure rfl rfl (RanP.move rfl) ?_
                            refine RefL.pure rfl rfl (RanP.pickT rfl rfl) ?_
                            refine RefL.nil ?_
                            exact RefE.fin (s := x49) ⟨rfl, rfl, rfl, rfl, rfl, rfl, trivial⟩
                          · refine RefL.skip rfl rfl ?_
                            refine RefL.pure rfl rfl (RanP.pickF rfl rfl) ?_
                            refine RefL.nil ?_
                            exact RefE.fin (s := false) ⟨rfl, rfl, rfl, rfl, rfl, rfl, trivial⟩
                        · intro x52
                          refine RefL.pure rfl rfl (RanP.move rfl) ?_
                          refine RefL.cut (enc := fun (x53 : Bool) => ([(77, .bool x53), (0, .string a0), (6, .int .i64 s4), (7, .int .u64 x50), (8, .bool x49), (9, .int .i64 s44.2.2)] : Env)) 11 ?_ ?_
                          · refine RefL.ite (s := 66) rfl ?_ ?_
                            · refine RefL.skip rfl rfl ?_
                              refine RefL.skip rfl rfl ?_
                              refine RefL.skip rfl rfl ?_
                              refine RefL.skip rfl rfl ?_
                              refine RefL.skip rfl rfl ?_
                              refine RefL.skip rfl rfl ?_
                              refine RefL.skip rfl rfl ?_
                              refine RefL.skip rfl rfl ?_
                              refine RefL.skip rfl rfl ?_
                              refine RefL.skip rfl rfl ?_
                              refine RefL.pure rfl rfl (RanP.pickT rfl rfl) ?_
                              refine RefL.nil ?_
                              exact RefE.fin (s := true) ⟨rfl, rfl, rfl, rfl, rfl, rfl, trivial⟩
                            · refine RefL.pure rfl rfl (RanP.move rfl) ?_
                              refine RefL.pure rfl rfl (RanP.eql rfl rfl) ?_
                              refine RefL.pure rfl rfl (RanP.move rfl) ?_
                              refine RefL.cut (enc := fun (x54 : Bool) => ([(72, .bool x54), (0, .string a0), (6, .int .i64 s4), (7, .int .u64 x50), (8, .bool x49), (9, .int .i64 s44.2.2), (66, .bool false)] : Env)) 3 ?_ ?_
                              · refine RefL.ite (s := 69) rfl ?_ ?_
                                · refine RefL.pure rfl rfl (RanP.move rfl) ?_
                                  refine RefL.pure rfl rfl (RanP.eql rfl rfl) ?_
                                  refine RefL.pure rfl rfl (RanP.pickT rfl rfl) ?_
                                  refine RefL.nil ?_
                                  exact RefE.fin (s := (s44.2.2 == (1 : Int))) ⟨rfl, rfl, rfl, rfl, rfl, rfl, rfl, trivial⟩
                                · refine RefL.skip rfl rfl ?_
                                  refine RefL.skip rfl rfl ?_
                                  refine RefL.pure rfl rfl (RanP.pickF rfl rfl) ?_
                                  refine RefL.nil ?_
                                  exact RefE.fin (s := false) ⟨rfl, rfl, rfl, rfl, rfl, rfl, rfl, trivial⟩
                              · intro x54
                                refine RefL.pure rfl rfl (RanP.move rfl) ?_
                                refine RefL.cut (enc := fun (x55 : Bool) => ([(76, .bool x55), (0, .string a0), (6, .int .i64 s4), (7, .int .u64 x50), (8, .bool x49), (9, .int .i64 s44.2.2), (66, .bool false)] : Env)) 3 ?_ ?_
                                · refine RefL.ite (s := 73) rfl ?_ ?_
                                  · refine RefL.pure rfl rfl (RanP.move rfl) ?_
                                    refine RefL.pure rfl rfl (RanP.lss rfl rfl) ?_
                                    refine RefL.pure rfl rfl (RanP.pickT rfl rfl) ?_
                                    refine RefL.nil ?_
                                    exact RefE.fin (s := (decide (x50 < (126 : Int)))) ⟨rfl, rfl, rfl, rfl, rfl, rfl, rfl, trivial⟩
                                  · refine RefL.skip rfl rfl ?_
                                    refine RefL.skip rfl rfl ?_
                                    refine RefL.pure rfl rfl (RanP.pickF rfl rfl) ?_
                                    refine RefL.nil ?_
                                    exact RefE.fin (s := false) ⟨rfl, rfl, rfl, rfl, rfl, rfl, rfl, trivial⟩
                                · intro x55
                                  refine RefL.pure rfl rfl (RanP.pickF rfl rfl) ?_
                                  refine RefL.nil ?_
                                  exact RefE.fin (s := x55) ⟨rfl, rfl, rfl, rfl, rfl, rfl, trivial⟩
                          · intro x53
                            refine RefL.nil ?_
                            refine RefE.next ?_
                            refine RefC.cond rfl ?_ ?_
                            · refine RefC.seq ?_
                              refine RefC.region ?_
                              refine RefL.pure rfl rfl (RanP.assign rfl) ?_
                              refine RefL.pure rfl rfl (RanP.assign rfl) ?_
                              refine RefL.pure rfl rfl (RanP.assign rfl) ?_
                              refine RefL.nil ?_
                              refine RefE.next ?_
                              refine RefC.ret ?_
                              refine RefE.blockRet ?_
                              refine RefE.thenRet ?_
                              refine RefE.roundRet ?_
                              refine RefE.blockRet ?_
                              refine RefE.finR ?_
                              refine RefE.thenRet ?_
                              refine RefE.retV rfl ?_
                              refine RefV.tmp rfl ?_
                              refine RefV.tmp rfl ?_
                              refine RefV.tmp rfl ?_
                              exact RefV.nil rfl
                            · refine RefC.skip ?_
                              refine RefE.blockNormal ?_
                              refine RefE.next ?_
                              refine RefC.region ?_
                              refine RefL.pure rfl rfl (RanP.move rfl) ?_
                              refine RefL.pure rfl rfl (RanP.add rfl rfl) ?_
                              refine RefL.pure rfl rfl (RanP.assign rfl) ?_
                              refine RefL.lt 9 (fun y => .int .i64 y) rfl fun x56 => ?_
                              refine RefL.nil ?_
                              exact RefE.again (ih (x50, x49, x56)) ⟨rfl, rfl, rfl, rfl, rfl, trivial⟩
          · refine RefC.exit ?_
            refine RefE.thenExit ?_
            refine RefE.roundExit ?_
            refine RefE.blockExit ?_
            exact RefE.finL (s := (s44.1)) ⟨rfl, rfl, trivial⟩
        · intro s57
          refine RefE.next ?_
          refine RefC.seq ?_
          refine RefC.region ?_
          refine RefL.pure rfl rfl (RanP.move rfl) ?_
          refine RefL.pure rfl rfl (RanP.move rfl) ?_
          refine RefL.pure rfl rfl (RanP.add rfl rfl) ?_
          refine RefL.pure rfl rfl (RanP.assign rfl) ?_
          refine RefL.pure rfl rfl (RanP.assign rfl) ?_
          refine RefL.lt 3 (fun y => .int .i64 y) rfl fun x58 => ?_
          refine RefL.pure rfl rfl (RanP.assign rfl) ?_
          refine RefL.nil ?_
          refine RefE.next ?_
          refine RefC.ret ?_
          refine RefE.retV rfl ?_
          refine RefV.tmp rfl ?_
          refine RefV.tmp rfl ?_
          refine RefV.tmp rfl ?_
          exact RefV.nil rfl

def ref08_Apply_l0 (K : Nat) (a2 : ByteArray) (s6 : Int) (x1 : Addr) (again : (ByteArray × Int) → G (ByteArray)) (s35 : ByteArray × Int) : G (ByteArray) :=
  if (decide (s35.2 < (a2.size : Int))) = true then
    drw <|
    chk (0 ≤ s35.2 ∧ s35.2 < (a2.size : Int)) <|
    chk (0 ≤ (Int.tmod (IntKind.wrap .i64 (s6 + s35.2)) (4 : Int)) ∧ (Int.tmod (IntKind.wrap .i64 (s6 + s35.2)) (4 : Int)) < ((4 : Nat) : Int)) <|
    ldI .u8 (x1.add ((Int.tmod (IntKind.wrap .i64 (s6 + s35.2)) (4 : Int)).toNat * 1)) fun x38 =>
    new [.int .u8 (xorI .u8 (bt a2 s35.2) x38)] 5 fun x39 =>
    strOf (Sl.mk (some x39) 1 1) fun x40 =>
    chk (s35.1.size + x40.size ≤ 9223372036854775807) <|
    lt (s35.1 ++ x40) fun x42 =>
    lt (IntKind.wrap .i64 (s35.2 + (1 : Int))) fun x43 =>
    again (x42, x43)
  else
    ret (s35.1)
def ref08_Apply (K : Nat) (a0 : A4u8) (a1 : Int) (a2 : ByteArray) : G (ByteArray) :=
  new (Agg.cells a0) 57 fun x1 =>
  lt (ByteArray.mk #[]) fun x2 =>
  lt (Int.tmod a1 (4 : Int)) fun x3 =>
  bnd (
    if (decide (x3 < (0 : Int))) = true then
      lt (IntKind.wrap .i64 (x3 + (4 : Int))) fun x5 =>
      ret (x5)
    else
      ret (x3)) fun (s6 : Int) =>
  lt (ByteArray.mk #[]) fun x7 =>
  bnd (
    loopG (ref08_Apply_l0 K a2 s6 x1) K (x7, (0 : Int))) fun (s44 : ByteArray) =>
  ret s44
set_option maxRecDepth 100000 in
theorem ref08_Apply_ref (K : Nat) (a0 : A4u8) (a1 : Int) (a2 : ByteArray) : Does Try.prog 83 [.agg (Agg.cells a0).toArray, .int .i64 a1, .string a2] (ref08_Apply K a0 a1 a2) (fun r => .string r) := by
  refine Does.of Try.func83 rfl rfl rfl ?_
  unfold ref08_Apply
  refine RefC.seq ?_
  refine RefC.region ?_
  refine RefL.hv rfl rfl (Hv.box rfl rfl fun x1 => ?_)
  refine RefL.pure rfl rfl (RanP.assign rfl) ?_
  refine RefL.lt 6 (fun y => .string y) rfl fun x2 => ?_
  refine RefL.nil ?_
  refine RefE.next ?_
  refine RefC.seq ?_
  refine RefC.region ?_
  refine RefL.pure rfl rfl (RanP.move rfl) ?_
  refine RefL.pure rfl rfl (RanP.rem (by decide) rfl rfl) ?_
  refine RefL.pure rfl rfl (RanP.assign rfl) ?_
  refine RefL.lt 7 (fun y => .int .i64 y) rfl fun x3 => ?_
  refine RefL.nil ?_
  refine RefE.next ?_
  refine RefC.seq ?_
  refine RefC.seq ?_
  refine RefC.region ?_
  refine RefL.pure rfl rfl (RanP.move rfl) ?_
  refine RefL.pure rfl rfl (RanP.lss rfl rfl) ?_
  refine RefL.nil ?_
  refine RefE.next ?_
  refine RefC.cut (enc := fun (s6 : Int) => ([(7, .int .i64 s6), (2, .string a2), (3, .pointer (some x1))] : Env)) ?_ ?_
  · refine RefC.cond rfl ?_ ?_
    · refine RefC.region ?_
      refine RefL.pure rfl rfl (RanP.move rfl) ?_
      refine RefL.pure rfl rfl (RanP.add rfl rfl) ?_
      refine RefL.pure rfl rfl (RanP.assign rfl) ?_
      refine RefL.lt 7 (fun y => .int .i64 y) rfl fun x5 => ?_
      refine RefL.nil ?_
      exact RefE.fin (s := (x5)) ⟨rfl, rfl, rfl, trivial⟩
    · refine RefC.skip ?_
      exact RefE.fin (s := (x3)) ⟨rfl, rfl, rfl, trivial⟩
  · intro s6
    refine RefE.next ?_
    refine RefC.seq ?_
    refine RefC.region ?_
    refine RefL.pure rfl rfl (RanP.assign rfl) ?_
    refine RefL.lt 8 (fun y => .string y) rfl fun x7 => ?_
    refine RefL.nil ?_
    refine RefE.next ?_
    refine RefC.seq ?_
    refine RefC.seq ?_
    refine RefC.region ?_
    refine RefL.pure rfl rfl (RanP.assign rfl) ?_
    refine RefL.nil ?_
    refine RefE.next ?_
    refine RefC.cut (enc := fun (s44 : ByteArray) => ([(8, .string s44)] : Env)) ?_ ?_
    · refine RefC.block ?_
      refine RefC.loopW (enc := fun (s35 : ByteArray × Int) => ([(8, .string s35.1), (9, .int .i64 s35.2), (2, .string a2), (3, .pointer (some x1)), (7, .int .i64 s6)] : Env)) ⟨rfl, rfl, rfl, rfl, rfl, trivial⟩ ?_ _
      intro again k ih s35
      unfold ref08_Apply_l0
      refine RefC.seq ?_
      refine RefC.seq ?_
      refine RefC.region ?_
      refine RefL.pure rfl rfl (RanP.move rfl) ?_
      refine RefL.pure rfl rfl (RanP.move rfl) ?_
      refine RefL.pure rfl rfl (RanP.lenS rfl Try.underlying9 rfl) ?_
      refine RefL.pure rfl rfl (RanP.lss rfl rfl) ?_
      refine RefL.nil ?_
      refine RefE.next ?_
      refine RefC.cond rfl ?_ ?_
      · refine RefC.skip ?_
        refine RefE.next ?_
        refine RefC.seq ?_
        refine RefC.block ?_
        refine RefC.draw mixed [0, 0, 0, 6, 0, 0, 48, 112, 240, 496, 1022, 2046, 4094, 8191, 16383] [.lp 0, .lp 1, .lp 2, .lp 3, .lp 4, .lp 5, .lp 6, .lp 7, .lp 8, .li 9, .lp 10, .hv 11, .li 12, .lp 13, .lp 14] (by kernel_rfl) ?_
        refine RefD.pure (at_ rfl) rfl (RanP.move rfl) ?_
        refine RefD.pure (at_ rfl) rfl (RanP.move rfl) ?_
        refine RefD.pure (at_ rfl) rfl (RanP.move rfl) ?_
        refine RefD.chk fun h36 => ?_
        refine RefD.pure (at_ rfl) rfl (RanP.indexS h36 Try.underlying9 rfl rfl) ?_
        refine RefD.pure (at_ rfl) rfl (RanP.move rfl) ?_
        refine RefD.pure (at_ rfl) rfl (RanP.move rfl) ?_
        refine RefD.pure (at_ rfl) rfl (RanP.add rfl rfl) ?_
        refine RefD.pure (at_ rfl) rfl (RanP.rem (by decide) rfl rfl) ?_
        refine RefD.chk fun h37 => ?_
        refine RefD.pure (at_ rfl) rfl (RanP.ixArr (len := 4) h37 Try.underlying57 Try.sizeOf5 rfl rfl) ?_
        refine RefD.li0 (at_ rfl) rfl (Lt.ldI Try.isAgg5 rfl fun x38 => ?_)
        refine RefD.pure (at_ rfl) rfl (RanP.xor rfl rfl) ?_
        refine RefD.hv (at_ rfl) rfl (Hv.buildSlice rfl (cs := [.int .u8 (xorI .u8 (bt a2 s35.2) x38)]) (e := 5) (fun _ => by kernel_rfl) fun x39 => ?_)
        refine RefD.li0 (at_ rfl) rfl (Lt.strOf Try.underlying36 Try.underlying9 Try.underlying5 rfl fun x40 => ?_)
        refine RefD.chk fun h41 => ?_
        refine RefD.pure (at_ rfl) rfl (RanP.addS h41 rfl rfl) ?_
        refine RefD.pure (at_ rfl) rfl (RanP.assign rfl) ?_
        refine RefD.lt 8 (fun y => .string y) rfl fun x42 => ?_
        refine RefD.nil ?_
        refine RefE.blockNormal ?_
        refine RefE.next ?_
        refine RefC.region ?_
        refine RefL.pure rfl rfl (RanP.move rfl) ?_
        refine RefL.pure rfl rfl (RanP.add rfl rfl) ?_
        refine RefL.pure rfl rfl (RanP.assign rfl) ?_
        refine RefL.lt 9 (fun y => .int .i64 y) rfl fun x43 => ?_
        refine RefL.nil ?_
        exact RefE.again (ih (x42, x43)) ⟨rfl, rfl, rfl, rfl, rfl, trivial⟩
      · refine RefC.exit ?_
        refine RefE.thenExit ?_
        refine RefE.roundExit ?_
        refine RefE.blockExit ?_
        exact RefE.fin (s := (s35.1)) ⟨rfl, trivial⟩
    · intro s44
      refine RefE.next ?_
      refine RefC.seq ?_
      refine RefC.region ?_
      refine RefL.pure rfl rfl (RanP.move rfl) ?_
      refine RefL.pure rfl rfl (RanP.assign rfl) ?_
      refine RefL.nil ?_
      refine RefE.next ?_
      refine RefC.ret ?_
      refine RefE.retV rfl ?_
      refine RefV.tmp rfl ?_
      exact RefV.nil rfl

def ref09_Get (K : Nat) (a0 : ByteArray) (a1 : Int) : G (Tapi_Frame × Int × Int) :=
  new [.bool false, .int .i64 (0 : Int), .bool false, .int .u8 (0 : Int), .int .u8 (0 : Int), .int .u8 (0 : Int), .int .u8 (0 : Int), .string (ByteArray.mk #[])] 59 fun x1 =>
  if (sEq a0 (ByteArray.mk #[])) = true then
    st x1 (.agg (Agg.cells (Tapi_Frame.mk false (0 : Int) false (0 : Int) (0 : Int) (0 : Int) (0 : Int) (ByteArray.mk #[]))).toArray) <|
    ldG (α := Tapi_Frame) x1 fun r2 =>
    ret (r2, (0 : Int), (90 : Int))
  else
    drw <|
    chk (0 ≤ (0 : Int) ∧ (0 : Int) < (a0.size : Int)) <|
    chk (0 ≤ (0 : Int) ∧ (0 : Int) < (a0.size : Int)) <|
    new [.bool false, .int .i64 (0 : Int), .bool false, .int .u8 (0 : Int), .int .u8 (0 : Int), .int .u8 (0 : Int), .int .u8 (0 : Int), .string (ByteArray.mk #[])] 59 fun x5 =>
    st x5 (.agg (Agg.cells (Tapi_Frame.mk (decide ((128 : Int) ≤ (bt a0 (0 : Int)))) (Int.tmod (IntKind.wrap .i64 (bt a0 (0 : Int))) (16 : Int)) false (0 : Int) (0 : Int) (0 : Int) (0 : Int) (ByteArray.mk #[]))).toArray) <|
    chk (0 ≤ (0 : Int) ∧ (0 : Int) < (a0.size : Int)) <|
    bnd (
      if ((Int.tmod (IntKind.wrap .i64 (Int.tdiv (IntKind.wrap .i64 (bt a0 (0 : Int))) (16 : Int))) (8 : Int)) != (0 : Int)) = true then
        ret true
      else
        ldI .i64 (x5.add 1) fun x8 =>
        bnd (
          if (decide ((2 : Int) < x8)) = true then
            ldI .i64 (x5.add 1) fun x10 =>
            bnd (ref09_Control K x10) fun x11 =>
            ret (!x11)
          else
            ret false) fun (x9 : Bool) =>
        ret x9) fun (x7 : Bool) =>
    bnd (
      if x7 = true then
        ret true
      else
        ldI .i64 (x5.add 1) fun x13 =>
        bnd (ref09_Control K x13) fun x14 =>
        bnd (
          if x14 = true then
            ldB (x5.add 0) fun x16 =>
            ret (!x16)
          else
            ret false) fun (x15 : Bool) =>
        ret x15) fun (x12 : Bool) =>
    if x12 = true then
      st x1 (.agg (Agg.cells (Tapi_Frame.mk false (0 : Int) false (0 : Int) (0 : Int) (0 : Int) (0 : Int) (ByteArray.mk #[]))).toArray) <|
      ldG (α := Tapi_Frame) x1 fun r17 =>
      ret (r17, (0 : Int), (91 : Int))
    else
      bnd (
        if (decide ((1 : Int) < (a0.size : Int))) = true then
          ldI .i64 (x5.add 1) fun x19 =>
          bnd (ref09_Control K x19) fun x20 =>
          ret x20
        else
          ret false) fun (x18 : Bool) =>
      bnd (
        if x18 = true then
          chk (0 ≤ (1 : Int) ∧ (1 : Int) < (a0.size : Int)) <|
          ret (decide ((125 : Int) < (Int.tmod (bt a0 (1 : Int)) (128 : Int))))
        else
          ret false) fun (x21 : Bool) =>
      if x21 = true then
        st x1 (.agg (Agg.cells (Tapi_Frame.mk false (0 : Int) false (0 : Int) (0 : Int) (0 : Int) (0 : Int) (ByteArray.mk #[]))).toArray) <|
        ldG (α := Tapi_Frame) x1 fun r23 =>
        ret (r23, (0 : Int), (91 : Int))
      else
        slStr a0 (some (1 : Int)) none fun x24 =>
        bnd (ref08_Get K x24) fun x25 =>
        if (x25.2.2 == (81 : Int)) = true then
          st x1 (.agg (Agg.cells (Tapi_Frame.mk false (0 : Int) false (0 : Int) (0 : Int) (0 : Int) (0 : Int) (ByteArray.mk #[]))).toArray) <|
          ldG (α := Tapi_Frame) x1 fun r26 =>
          ret (r26, (0 : Int), (91 : Int))
        else
          if (x25.2.2 != (0 : Int)) = true then
            st x1 (.agg (Agg.cells (Tapi_Frame.mk false (0 : Int) false (0 : Int) (0 : Int) (0 : Int) (0 : Int) (ByteArray.mk #[]))).toArray) <|
            ldG (α := Tapi_Frame) x1 fun r27 =>
            ret (r27, (0 : Int), (90 : Int))
          else
            bnd (
              if (decide (a1 < (0 : Int))) = true then
                ret true
              else
                ret (decide ((IntKind.wrap .u64 a1) < x25.1))) fun (x28 : Bool) =>
            if x28 = true then
              st x1 (.agg (Agg.cells (Tapi_Frame.mk false (0 : Int) false (0 : Int) (0 : Int) (0 : Int) (0 : Int) (ByteArray.mk #[]))).toArray) <|
              ldG (α := Tapi_Frame) x1 fun r29 =>
              ret (r29, (0 : Int), (92 : Int))
            else
              slStr a0 (some (IntKind.wrap .i64 ((1 : Int) + x25.2.1))) none fun x30 =>
              chk (0 ≤ (1 : Int) ∧ (1 : Int) < (a0.size : Int)) <|
              bnd (
                if (decide ((128 : Int) ≤ (bt a0 (1 : Int)))) = true then
                  st (x5.add 2) (.bool true) <|
                  if (decide ((x30.size : Int) < (4 : Int))) = true then
                    st x1 (.agg (Agg.cells (Tapi_Frame.mk false (0 : Int) false (0 : Int) (0 : Int) (0 : Int) (0 : Int) (ByteArray.mk #[]))).toArray) <|
                    inr (
                      ldG (α := Tapi_Frame) x1 fun r38 =>
                      ret (r38, (0 : Int), (90 : Int)))
                  else
                    drw <|
                    chk (0 ≤ (0 : Int) ∧ (0 : Int) < (x30.size : Int)) <|
                    chk (0 ≤ (1 : Int) ∧ (1 : Int) < (x30.size : Int)) <|
                    chk (0 ≤ (2 : Int) ∧ (2 : Int) < (x30.size : Int)) <|
                    chk (0 ≤ (3 : Int) ∧ (3 : Int) < (x30.size : Int)) <|
                    st (x5.add 3) (.agg (Agg.cells (A4u8.mk (bt x30 (0 : Int)) (bt x30 (1 : Int)) (bt x30 (2 : Int)) (bt x30 (3 : Int)))).toArray) <|
                    slStr x30 (some (4 : Int)) none fun x43 =>
                    ret (.inl (x43))
                else
                  ret (.inl (x30))) (sumK fun (s44 : ByteArray) =>
              if (decide ((IntKind.wrap .u64 (s44.size : Int)) < x25.1)) = true then
                st x1 (.agg (Agg.cells (Tapi_Frame.mk false (0 : Int) false (0 : Int) (0 : Int) (0 : Int) (0 : Int) (ByteArray.mk #[]))).toArray) <|
                ldG (α := Tapi_Frame) x1 fun r45 =>
                ret (r45, (0 : Int), (90 : Int))
              else
                drw <|
                ldG (α := A4u8) (x5.add 3) fun x46 =>
                slStr s44 none (some x25.1) fun x47 =>
                bnd (ref08_Apply K x46 (0 : Int) x47) fun x48 =>
                st (x5.add 7) (.string x48) <|
                ldG (α := Tapi_Frame) x5 fun x49 =>
                st x1 (.agg (Agg.cells x49).toArray) <|
                lt (IntKind.wrap .i64 ((IntKind.wrap .i64 ((a0.size : Int) - (s44.size : Int))) + (IntKind.wrap .i64 x25.1))) fun x50 =>
                ldG (α := Tapi_Frame) x1 fun r51 =>
                ret (r51, x50, (0 : Int)))
set_option maxRecDepth 100000 in
theorem ref09_Get_ref (K : Nat) (a0 : ByteArray) (a1 : Int) : Does Try.prog 59 [.string a0, .int .i64 a1] (ref09_Get K a0 a1) (fun r => .tuple #[.agg (Agg.cells r.1).toArray, .int .i64 r.2.1, .int .i64 r.2.2]) := by
  refine Does.of Try.func59 rfl rfl rfl ?_
  unfold ref09_Get
  refine RefC.seq ?_
  refine RefC.region ?_
  refine RefL.hv rfl rfl (Hv.newZ Try.zeroValue59 rfl fun x1 => ?_)
  refine RefL.pure rfl rfl (RanP.assign rfl) ?_
  refine RefL.pure rfl rfl (RanP.assign rfl) ?_
  refine RefL.nil ?_
  refine RefE.next ?_
  refine RefC.seq ?_
  refine RefC.seq ?_
  refine RefC.region ?_
  refine RefL.pure rfl rfl (RanP.move rfl) ?_
  refine RefL.pure rfl rfl (RanP.eqlS rfl rfl) ?_
  refine RefL.nil ?_
  refine RefE.next ?_
  refine RefC.cond rfl ?_ ?_
  · refine RefC.seq ?_
    refine RefC.region ?_
    refine RefL.pure rfl rfl (RanP.build rfl (v := .agg (Agg.cells (Tapi_Frame.mk false (0 : Int) false (0 : Int) (0 : Int) (0 : Int) (0 : Int) (ByteArray.mk #[]))).toArray) (fun _ => by kernel_rfl)) ?_
    refine RefL.hv rfl rfl (Hv.st Try.sizeOf59 rfl rfl rfl ?_)
    refine RefL.pure rfl rfl (RanP.assign rfl) ?_
    refine RefL.pure rfl rfl (RanP.assign rfl) ?_
    refine RefL.nil ?_
    refine RefE.next ?_
    refine RefC.ret ?_
    refine RefE.thenRet ?_
    refine RefE.retV rfl ?_
    refine RefV.cellG Try.isAgg59 Try.sizeOf59 rfl fun r2 => ?_
    refine RefV.tmp rfl ?_
    refine RefV.tmp rfl ?_
    exact RefV.nil rfl
  · refine RefC.skip ?_
    refine RefE.next ?_
    refine RefC.seq ?_
    refine RefC.draw mixed [0, 1, 3, 0, 8, 24, 56, 127, 0, 511] [.lp 0, .lp 1, .lp 2, .lp 3, .lp 4, .lp 5, .lp 6, .lp 7, .hv 8, .hv 9] (by kernel_rfl) ?_
    refine RefD.pure (at_ rfl) rfl (RanP.move rfl) ?_
    refine RefD.chk fun h3 => ?_
    refine RefD.pure (at_ rfl) rfl (RanP.indexS h3 Try.underlying9 rfl rfl) ?_
    refine RefD.pure (at_ rfl) rfl (RanP.geq rfl rfl) ?_
    refine RefD.pure (at_ rfl) rfl (RanP.move rfl) ?_
    refine RefD.chk fun h4 => ?_
    refine RefD.pure (at_ rfl) rfl (RanP.indexS h4 Try.underlying9 rfl rfl) ?_
    refine RefD.pure (at_ rfl) rfl (RanP.conv Try.underlying5 Try.underlying3 rfl) ?_
    refine RefD.pure (at_ rfl) rfl (RanP.rem (by decide) rfl rfl) ?_
    refine RefD.pure (at_ rfl) rfl (RanP.build rfl (v := .agg (Agg.cells (Tapi_Frame.mk (decide ((128 : Int) ≤ (bt a0 (0 : Int)))) (Int.tmod (IntKind.wrap .i64 (bt a0 (0 : Int))) (16 : Int)) false (0 : Int) (0 : Int) (0 : Int) (0 : Int) (ByteArray.mk #[]))).toArray) (fun _ => by kernel_rfl)) ?_
    refine RefD.hv (at_ rfl) rfl (Hv.newZ Try.zeroValue59 rfl fun x5 => ?_)
    refine RefD.hv (at_ rfl) rfl (Hv.st Try.sizeOf59 rfl rfl rfl ?_)
    refine RefD.nil ?_
    refine RefE.next ?_
    refine RefC.seq ?_
    refine RefC.seq ?_
    refine RefC.region ?_
    refine RefL.pure rfl rfl (RanP.move rfl) ?_
    refine RefL.chk fun h6 => ?_
    refine RefL.pure rfl rfl (RanP.indexS h6 Try.underlying9 rfl rfl) ?_
    refine RefL.pure rfl rfl (RanP.conv Try.underlying5 Try.underlying3 rfl) ?_
    refine RefL.pure rfl rfl (RanP.quo (by decide) rfl rfl) ?_
    refine RefL.pure rfl rfl (RanP.rem (by decide) rfl rfl) ?_
    refine RefL.pure rfl rfl (RanP.neq rfl rfl) ?_
    refine RefL.pure rfl rfl (RanP.move rfl) ?_
    refine RefL.cut (enc := fun (x7 : Bool) => ([(39, .bool x7), (0, .string a0), (1, .int .i64 a1), (4, .pointer (some x1)), (7, .pointer (some x5))] : Env)) 10 ?_ ?_
    · refine RefL.ite (s := 29) rfl ?_ ?_
      · refine RefL.skip rfl rfl ?_
        refine RefL.skip rfl rfl ?_
        refine RefL.skip rfl rfl ?_
        refine RefL.skip rfl rfl ?_
        refine RefL.skip rfl rfl ?_
        refine RefL.skip rfl rfl ?_
        refine RefL.skip rfl rfl ?_
        refine RefL.skip rfl rfl ?_
        refine RefL.skip rfl rfl ?_
        refine RefL.pure rfl rfl (RanP.pickT rfl rfl) ?_
        refine RefL.nil ?_
        exact RefE.fin (s := true) ⟨rfl, rfl, rfl, rfl, rfl, trivial⟩
      · refine RefL.pure rfl rfl (RanP.fieldAddr fa_59_1 rfl) ?_
        refine RefL.li rfl rfl (Lt.ldI Try.isAgg3 rfl fun x8 => ?_)
        refine RefL.pure rfl rfl (RanP.gtr rfl rfl) ?_
        refine RefL.pure rfl rfl (RanP.move rfl) ?_
        refine RefL.cut (enc := fun (x9 : Bool) => ([(38, .bool x9), (0, .string a0), (1, .int .i64 a1), (4, .pointer (some x1)), (7, .pointer (some x5)), (29, .bool false)] : Env)) 5 ?_ ?_
        · refine RefL.ite (s := 33) rfl ?_ ?_
          · refine RefL.pure rfl rfl (RanP.fieldAddr fa_59_1 rfl) ?_
            refine RefL.li rfl rfl (Lt.ldI Try.isAgg3 rfl fun x10 => ?_)
            refine RefL.hv rfl rfl (Hv.call (ref09_Control_ref K x10) Try.call81 rfl rfl rfl fun x11 => ?_)
            refine RefL.pure rfl rfl (RanP.not rfl) ?_
            refine RefL.pure rfl rfl (RanP.pickT rfl rfl) ?_
            refine RefL.nil ?_
            exact RefE.fin (s := (!x11)) ⟨rfl, rfl, rfl, rfl, rfl, rfl, trivial⟩
          · refine RefL.skip rfl rfl ?_
            refine RefL.skip rfl rfl ?_
            refine RefL.skip rfl rfl ?_
            refine RefL.skip rfl rfl ?_
            refine RefL.pure rfl rfl (RanP.pickF rfl rfl) ?_
            refine RefL.nil ?_
            exact RefE.fin (s := false) ⟨rfl, rfl, rfl, rfl, rfl, rfl, trivial⟩
        · intro x9
          refine RefL.pure rfl rfl (RanP.pickF rfl rfl) ?_
          refine RefL.nil ?_
          exact RefE.fin (s := x9) ⟨rfl, rfl, rfl, rfl, rfl, trivial⟩
    · intro x7
      refine RefL.pure rfl rfl (RanP.move rfl) ?_
      refine RefL.cut (enc := fun (x12 : Bool) => ([(49, .bool x12), (0, .string a0), (1, .int .i64 a1), (4, .pointer (some x1)), (7, .pointer (some x5))] : Env)) 9 ?_ ?_
      · refine RefL.ite (s := 40) rfl ?_ ?_
        · refine RefL.skip rfl rfl ?_
          refine RefL.skip rfl rfl ?_
          refine RefL.skip rfl rfl ?_
          refine RefL.skip rfl rfl ?_
          refine RefL.skip rfl rfl ?_
          refine RefL.skip rfl rfl ?_
          refine RefL.skip rfl rfl ?_
          refine RefL.skip rfl rfl ?_
          refine RefL.pure rfl rfl (RanP.pickT rfl rfl) ?_
          refine RefL.nil ?_
          exact RefE.fin (s := true) ⟨rfl, rfl, rfl, rfl, rfl, trivial⟩
        · refine RefL.pure rfl rfl (RanP.fieldAddr fa_59_1 rfl) ?_
          refine RefL.li rfl rfl (Lt.ldI Try.isAgg3 rfl fun x13 => ?_)
          refine RefL.hv rfl rfl (Hv.call (ref09_Control_ref K x13) Try.call81 rfl rfl rfl fun x14 => ?_)
          refine RefL.pure rfl rfl (RanP.move rfl) ?_
          refine RefL.cut (enc := fun (x15 : Bool) => ([(48, .bool x15), (0, .string a0), (1, .int .i64 a1), (4, .pointer (some x1)), (7, .pointer (some x5)), (40, .bool false)] : Env)) 4 ?_ ?_
          · refine RefL.ite (s := 44) rfl ?_ ?_
            · refine RefL.pure rfl rfl (RanP.fieldAddr fa_59_0 rfl) ?_
              refine RefL.li rfl rfl (Lt.ldB Try.isAgg4 rfl fun x16 => ?_)
              refine RefL.pure rfl rfl (RanP.not rfl) ?_
              refine RefL.pure rfl rfl (RanP.pickT rfl rfl) ?_
              refine RefL.nil ?_
              exact RefE.fin (s := (!x16)) ⟨rfl, rfl, rfl, rfl, rfl, rfl, trivial⟩
            · refine RefL.skip rfl rfl ?_
              refine RefL.skip rfl rfl ?_
              refine RefL.skip rfl rfl ?_
              refine RefL.pure rfl rfl (RanP.pickF rfl rfl) ?_
              refine RefL.nil ?_
              exact RefE.fin (s := false) ⟨rfl, rfl, rfl, rfl, rfl, rfl, trivial⟩
          · intro x15
            refine RefL.pure rfl rfl (RanP.pickF rfl rfl) ?_
            refine RefL.nil ?_
            exact RefE.fin (s := x15) ⟨rfl, rfl, rfl, rfl, rfl, trivial⟩
      · intro x12
        refine RefL.nil ?_
        refine RefE.next ?_
        refine RefC.cond rfl ?_ ?_
        · refine RefC.seq ?_
          refine RefC.region ?_
          refine RefL.pure rfl rfl (RanP.build rfl (v := .agg (Agg.cells (Tapi_Frame.mk false (0 : Int) false (0 : Int) (0 : Int) (0 : Int) (0 : Int) (ByteArray.mk #[]))).toArray) (fun _ => by kernel_rfl)) ?_
          refine RefL.hv rfl rfl (Hv.st Try.sizeOf59 rfl rfl rfl ?_)
          refine RefL.pure rfl rfl (RanP.assign rfl) ?_
          refine RefL.pure rfl rfl (RanP.assign rfl) ?_
          refine RefL.nil ?_
          refine RefE.next ?_
          refine RefC.ret ?_
          refine RefE.thenRet ?_
          refine RefE.retV rfl ?_
          refine RefV.cellG Try.isAgg59 Try.sizeOf59 rfl fun r17 => ?_
          refine RefV.tmp rfl ?_
          refine RefV.tmp rfl ?_
          exact RefV.nil rfl
        · refine RefC.skip ?_
          refine RefE.next ?_
          refine RefC.seq ?_
          refine RefC.seq ?_
          refine RefC.region ?_
          refine RefL.pure rfl rfl (RanP.move rfl) ?_
          refine RefL.pure rfl rfl (RanP.lenS rfl Try.underlying9 rfl) ?_
          refine RefL.pure rfl rfl (RanP.gtr rfl rfl) ?_
          refine RefL.pure rfl rfl (RanP.move rfl) ?_
          refine RefL.cut (enc := fun (x18 : Bool) => ([(58, .bool x18), (0, .string a0), (1, .int .i64 a1), (4, .pointer (some x1)), (7, .pointer (some x5))] : Env)) 4 ?_ ?_
          · refine RefL.ite (s := 54) rfl ?_ ?_
            · refine RefL.pure rfl rfl (RanP.fieldAddr fa_59_1 rfl) ?_
              refine RefL.li rfl rfl (Lt.ldI Try.isAgg3 rfl fun x19 => ?_)
              refine RefL.hv rfl rfl (Hv.call (ref09_Control_ref K x19) Try.call81 rfl rfl rfl fun x20 => ?_)
              refine RefL.pure rfl rfl (RanP.pickT rfl rfl) ?_
              refine RefL.nil ?_
              exact RefE.fin (s := x20) ⟨rfl, rfl, rfl, rfl, rfl, trivial⟩
            · refine RefL.skip rfl rfl ?_
              refine RefL.skip rfl rfl ?_
              refine RefL.skip rfl rfl ?_
              refine RefL.pure rfl rfl (RanP.pickF rfl rfl) ?_
              refine RefL.nil ?_
              exact RefE.fin (s := false) ⟨rfl, rfl, rfl, rfl, rfl, trivial⟩
          · intro x18
            refine RefL.pure rfl rfl (RanP.move rfl) ?_
            refine RefL.cut (enc := fun (x21 : Bool) => ([(64, .bool x21), (0, .string a0), (1, .int .i64 a1), (4, .pointer (some x1)), (7, .pointer (some x5))] : Env)) 5 ?_ ?_
            · refine RefL.ite (s := 59) rfl ?_ ?_
              · refine RefL.pure rfl rfl (RanP.move rfl) ?_
                refine RefL.chk fun h22 => ?_
                refine RefL.pure rfl rfl (RanP.indexS h22 Try.underlying9 rfl rfl) ?_
                refine RefL.pure rfl rfl (RanP.rem (by decide) rfl rfl) ?_
                refine RefL.pure rfl rfl (RanP.gtr rfl rfl) ?_
                refine RefL.pure rfl rfl (RanP.pickT rfl rfl) ?_
                refine RefL.nil ?_
                exact RefE.fin (s := (decide ((125 : Int) < (Int.tmod (bt a0 (1 : Int)) (128 : Int))))) ⟨rfl, rfl, rfl, rfl, rfl, trivial⟩
              · refine RefL.skip rfl rfl ?_
                refine RefL.skip rfl rfl ?_
                refine RefL.skip rfl rfl ?_
                refine RefL.skip rfl rfl ?_
                refine RefL.pure rfl rfl (RanP.pickF rfl rfl) ?_
                refine RefL.nil ?_
                exact RefE.fin (s := false) ⟨rfl, rfl, rfl, rfl, rfl, trivial⟩
            · intro x21
              refine RefL.nil ?_
              refine RefE.next ?_
              refine RefC.cond rfl ?_ ?_
              · refine RefC.seq ?_
                refine RefC.region ?_
                refine RefL.pure rfl rfl (RanP.build rfl (v := .agg (Agg.cells (Tapi_Frame.mk false (0 : Int) false (0 : Int) (0 : Int) (0 : Int) (0 : Int) (ByteArray.mk #[]))).toArray) (fun _ => by kernel_rfl)) ?_
                refine RefL.hv rfl rfl (Hv.st Try.sizeOf59 rfl rfl rfl ?_)
                refine RefL.pure rfl rfl (RanP.assign rfl) ?_
                refine RefL.pure rfl rfl (RanP.assign rfl) ?_
                refine RefL.nil ?_
                refine RefE.next ?_
                refine RefC.ret ?_
                refine RefE.thenRet ?_
                refine RefE.retV rfl ?_
                refine RefV.cellG Try.isAgg59 Try.sizeOf59 rfl fun r23 => ?_
                refine RefV.tmp rfl ?_
                refine RefV.tmp rfl ?_
                exact RefV.nil rfl
              · refine RefC.skip ?_
                refine RefE.next ?_
                refine RefC.seq ?_
                refine RefC.region ?_
                refine RefL.pure rfl rfl (RanP.move rfl) ?_
                refine RefL.li rfl rfl (Lt.slStr (kl := .i64) (kh := .i64) Try.underlying9 rfl rfl rfl fun x24 => ?_)
                refine RefL.hv rfl rfl (Hv.call (ref08_Get_ref K x24) Try.call82 rfl rfl rfl fun x25 => ?_)
                refine RefL.pure rfl rfl (RanP.move rfl) ?_
                refine RefL.pure rfl rfl (RanP.extract rfl rfl) ?_
                refine RefL.pure rfl rfl (RanP.extract rfl rfl) ?_
                refine RefL.pure rfl rfl (RanP.extract rfl rfl) ?_
                refine RefL.pure rfl rfl (RanP.assign rfl) ?_
                refine RefL.pure rfl rfl (RanP.assign rfl) ?_
                refine RefL.pure rfl rfl (RanP.assign rfl) ?_
                refine RefL.nil ?_
                refine RefE.next ?_
                refine RefC.seq ?_
                refine RefC.seq ?_
                refine RefC.region ?_
                refine RefL.pure rfl rfl (RanP.move rfl) ?_
                refine RefL.pure rfl rfl (RanP.eql rfl rfl) ?_
                refine RefL.nil ?_
                refine RefE.next ?_
                refine RefC.cond rfl ?_ ?_
                · refine RefC.seq ?_
                  refine RefC.region ?_
                  refine RefL.pure rfl rfl (RanP.build rfl (v := .agg (Agg.cells (Tapi_Frame.mk false (0 : Int) false (0 : Int) (0 : Int) (0 : Int) (0 : Int) (ByteArray.mk #[]))).toArray) (fun _ => by kernel_rfl)) ?_
                  refine RefL.hv rfl rfl (Hv.st Try.sizeOf59 rfl rfl rfl ?_)
                  refine RefL.pure rfl rfl (RanP.assign rfl) ?_
                  refine RefL.pure rfl rfl (RanP.assign rfl) ?_
                  refine RefL.nil ?_
                  refine RefE.next ?_
                  refine RefC.ret ?_
                  refine RefE.thenRet ?_
                  refine RefE.retV rfl ?_
                  refine RefV.cellG Try.isAgg59 Try.sizeOf59 rfl fun r26 => ?_
                  refine RefV.tmp rfl ?_
                  refine RefV.tmp rfl ?_
                  exact RefV.nil rfl
                · refine RefC.skip ?_
                  refine RefE.next ?_
                  refine RefC.seq ?_
                  refine RefC.seq ?_
                  refine RefC.region ?_
                  refine RefL.pure rfl rfl (RanP.move rfl) ?_
                  refine RefL.pure rfl rfl (RanP.neq rfl rfl) ?_
                  refine RefL.nil ?_
                  refine RefE.next ?_
                  refine RefC.cond rfl ?_ ?_
                  · refine RefC.seq ?_
                    refine RefC.region ?_
                    refine RefL.pure rfl rfl (RanP.build rfl (v := .agg (Agg.cells (Tapi_Frame.mk false (0 : Int) false (0 : Int) (0 : Int) (0 : Int) (0 : Int) (ByteArray.mk #[]))).toArray) (fun _ => by kernel_rfl)) ?_
                    refine RefL.hv rfl rfl (Hv.st Try.sizeOf59 rfl rfl rfl ?_)
                    refine RefL.pure rfl rfl (RanP.assign rfl) ?_
                    refine RefL.pure rfl rfl (RanP.assign rfl) ?_
                    refine RefL.nil ?_
                    refine RefE.next ?_
                    refine RefC.ret ?_
                    refine RefE.thenRet ?_
                    refine RefE.retV rfl ?_
                    refine RefV.cellG Try.isAgg59 Try.sizeOf59 rfl fun r27 => ?_
                    refine RefV.tmp rfl ?_
                    refine RefV.tmp rfl ?_
                    exact RefV.nil rfl
                  · refine RefC.skip ?_
                    refine RefE.next ?_
                    refine RefC.seq ?_
                    refine RefC.seq ?_
                    refine RefC.region ?_
                    refine RefL.pure rfl rfl (RanP.move rfl) ?_
                    refine RefL.pure rfl rfl (RanP.lss rfl rfl) ?_
                    refine RefL.pure rfl rfl (RanP.move rfl) ?_
                    refine RefL.cut (enc := fun (x28 : Bool) => ([(86, .bool x28), (0, .string a0), (4, .pointer (some x1)), (7, .pointer (some x5)), (8, .int .u64 x25.1), (9, .int .i64 x25.2.1)] : Env)) 5 ?_ ?_
                    · refine RefL.ite (s := 81) rfl ?_ ?_
                      · refine RefL.skip rfl rfl ?_
                        refine RefL.skip rfl rfl ?_
                        refine RefL.skip rfl rfl ?_
                        refine RefL.skip rfl rfl ?_
                        refine RefL.pure rfl rfl (RanP.pickT rfl rfl) ?_
                        refine RefL.nil ?_
                        exact RefE.fin (s := true) ⟨rfl, rfl, rfl, rfl, rfl, rfl, trivial⟩
                      · refine RefL.pure rfl rfl (RanP.move rfl) ?_
                        refine RefL.pure rfl rfl (RanP.move rfl) ?_
                        refine RefL.pure rfl rfl (RanP.conv Try.underlying3 Try.underlying133 rfl) ?_
                        refine RefL.pure rfl rfl (RanP.gtr rfl rfl) ?_
                        refine RefL.pure rfl rfl (RanP.pickF rfl rfl) ?_
                        refine RefL.nil ?_
                        exact RefE.fin (s := (decide ((IntKind.wrap .u64 a1) < x25.1))) ⟨rfl, rfl, rfl, rfl, rfl, rfl, trivial⟩
                    · intro x28
                      refine RefL.nil ?_
                      refine RefE.next ?_
                      refine RefC.cond rfl ?_ ?_
                      · refine RefC.seq ?_
                        refine RefC.region ?_
                        refine RefL.pure rfl rfl (RanP.build rfl (v := .agg (Agg.cells (Tapi_Frame.mk false (0 : Int) false (0 : Int) (0 : Int) (0 : Int) (0 : Int) (ByteArray.mk #[]))).toArray) (fun _ => by kernel_rfl)) ?_
                        refine RefL.hv rfl rfl (Hv.st Try.sizeOf59 rfl rfl rfl ?_)
                        refine RefL.pure rfl rfl (RanP.assign rfl) ?_
                        refine RefL.pure rfl rfl (RanP.assign rfl) ?_
                        refine RefL.nil ?_
                        refine RefE.next ?_
                        refine RefC.ret ?_
                        refine RefE.thenRet ?_
                        refine RefE.retV rfl ?_
                        refine RefV.cellG Try.isAgg59 Try.sizeOf59 rfl fun r29 => ?_
                        refine RefV.tmp rfl ?_
                        refine RefV.tmp rfl ?_
                        exact RefV.nil rfl
                      · refine RefC.skip ?_
                        refine RefE.next ?_
                        refine RefC.seq ?_
                        refine RefC.region ?_
                        refine RefL.pure rfl rfl (RanP.move rfl) ?_
                        refine RefL.pure rfl rfl (RanP.move rfl) ?_
                        refine RefL.pure rfl rfl (RanP.add rfl rfl) ?_
                        refine RefL.li rfl rfl (Lt.slStr (kl := .i64) (kh := .i64) Try.underlying9 rfl rfl rfl fun x30 => ?_)
                        refine RefL.pure rfl rfl (RanP.assign rfl) ?_
                        refine RefL.nil ?_
                        refine RefE.next ?_
                        refine RefC.seq ?_
                        refine RefC.seq ?_
                        refine RefC.region ?_
                        refine RefL.pure rfl rfl (RanP.move rfl) ?_
                        refine RefL.chk fun h31 => ?_
                        refine RefL.pure rfl rfl (RanP.indexS h31 Try.underlying9 rfl rfl) ?_
                        refine RefL.pure rfl rfl (RanP.geq rfl rfl) ?_
                        refine RefL.nil ?_
                        refine RefE.next ?_
                        refine RefC.cutSum (enc := fun (s44 : ByteArray) => ([(11, .string s44), (0, .string a0), (4, .pointer (some x1)), (7, .pointer (some x5)), (8, .int .u64 x25.1)] : Env)) (KThen.mono KRet.mono) ?_ ?_
                        · refine RefC.cond rfl ?_ ?_
                          · refine RefC.seq ?_
                            refine RefC.region ?_
                            refine RefL.pure rfl rfl (RanP.fieldAddr fa_59_2 rfl) ?_
                            refine RefL.hv rfl rfl (Hv.st Try.sizeOf4 rfl rfl rfl ?_)
                            refine RefL.nil ?_
                            refine RefE.next ?_
                            refine RefC.seq ?_
                            refine RefC.seq ?_
                            refine RefC.region ?_
                            refine RefL.pure rfl rfl (RanP.move rfl) ?_
                            refine RefL.pure rfl rfl (RanP.lenS rfl Try.underlying9 rfl) ?_
                            refine RefL.pure rfl rfl (RanP.lss rfl rfl) ?_
                            refine RefL.nil ?_
                            refine RefE.next ?_
                            refine RefC.cond rfl ?_ ?_
                            · refine RefC.seq ?_
                              refine RefC.region ?_
                              refine RefL.pure rfl rfl (RanP.build rfl (v := .agg (Agg.cells (Tapi_Frame.mk false (0 : Int) false (0 : Int) (0 : Int) (0 : Int) (0 : Int) (ByteArray.mk #[]))).toArray) (fun _ => by kernel_rfl)) ?_
                              refine RefL.hv rfl rfl (Hv.st Try.sizeOf59 rfl rfl rfl ?_)
                              refine RefL.pure rfl rfl (RanP.assign rfl) ?_
                              refine RefL.pure rfl rfl (RanP.assign rfl) ?_
                              refine RefL.nil ?_
                              refine RefE.next ?_
                              refine RefC.ret ?_
                              refine RefE.thenRet ?_
                              refine RefE.finR ?_
                              refine RefE.thenRet ?_
                              refine RefE.retV rfl ?_
                              refine RefV.cellG Try.isAgg59 Try.sizeOf59 rfl fun r38 => ?_
                              refine RefV.tmp rfl ?_
                              refine RefV.tmp rfl ?_
                              exact RefV.nil rfl
                            · refine RefC.skip ?_
                              refine RefE.next ?_
                              refine RefC.seq ?_
                              refine RefC.draw mixed [0, 1, 0, 4, 0, 16, 0, 64, 255, 511, 1023] [.lp 0, .lp 1, .lp 2, .lp 3, .lp 4, .lp 5, .lp 6, .lp 7, .lp 8, .lp 9, .hv 10] (by kernel_rfl) ?_
                              refine RefD.pure (at_ rfl) rfl (RanP.move rfl) ?_
                              refine RefD.chk fun h39 => ?_
                              refine RefD.pure (at_ rfl) rfl (RanP.indexS h39 Try.underlying9 rfl rfl) ?_
                              refine RefD.pure (at_ rfl) rfl (RanP.move rfl) ?_
                              refine RefD.chk fun h40 => ?_
                              refine RefD.pure (at_ rfl) rfl (RanP.indexS h40 Try.underlying9 rfl rfl) ?_
                              refine RefD.pure (at_ rfl) rfl (RanP.move rfl) ?_
                              refine RefD.chk fun h41 => ?_
                              refine RefD.pure (at_ rfl) rfl (RanP.indexS h41 Try.underlying9 rfl rfl) ?_
                              refine RefD.pure (at_ rfl) rfl (RanP.move rfl) ?_
                              refine RefD.chk fun h42 => ?_
                              refine RefD.pure (at_ rfl) rfl (RanP.indexS h42 Try.underlying9 rfl rfl) ?_
                              refine RefD.pure (at_ rfl) rfl (RanP.build rfl (v := .agg (Agg.cells (A4u8.mk (bt x30 (0 : Int)) (bt x30 (1 : Int)) (bt x30 (2 : Int)) (bt x30 (3 : Int)))).toArray) (fun _ => by kernel_rfl)) ?_
                              refine RefD.pure (at_ rfl) rfl (RanP.fieldAddr fa_59_3 rfl) ?_
                              refine RefD.hv (at_ rfl) rfl (Hv.st Try.sizeOf57 rfl rfl rfl ?_)
                              refine RefD.nil ?_
                              refine RefE.next ?_
                              refine RefC.region ?_
                              refine RefL.pure rfl rfl (RanP.move rfl) ?_
                              refine RefL.li rfl rfl (Lt.slStr (kl := .i64) (kh := .i64) Try.underlying9 rfl rfl rfl fun x43 => ?_)
                              refine RefL.pure rfl rfl (RanP.assign rfl) ?_
                              refine RefL.nil ?_
                              exact RefE.finL (s := (x43)) ⟨rfl, rfl, rfl, rfl, rfl, trivial⟩
                          · refine RefC.skip ?_
                            exact RefE.finL (s := (x30)) ⟨rfl, rfl, rfl, rfl, rfl, trivial⟩
                        · intro s44
                          refine RefE.next ?_
                          refine RefC.seq ?_
                          refine RefC.seq ?_
                          refine RefC.region ?_
                          refine RefL.pure rfl rfl (RanP.move rfl) ?_
                          refine RefL.pure rfl rfl (RanP.lenS rfl Try.underlying9 rfl) ?_
                          refine RefL.pure rfl rfl (RanP.conv Try.underlying3 Try.underlying133 rfl) ?_
                          refine RefL.pure rfl rfl (RanP.move rfl) ?_
                          refine RefL.pure rfl rfl (RanP.lss rfl rfl) ?_
                          refine RefL.nil ?_
                          refine RefE.next ?_
                          refine RefC.cond rfl ?_ ?_
                          · refine RefC.seq ?_
                            refine RefC.region ?_
                            refine RefL.pure rfl rfl (RanP.build rfl (v := .agg (Agg.cells (Tapi_Frame.mk false (0 : Int) false (0 : Int) (0 : Int) (0 : Int) (0 : Int) (ByteArray.mk #[]))).toArray) (fun _ => by kernel_rfl)) ?_
                            refine RefL.hv rfl rfl (Hv.st Try.sizeOf59 rfl rfl rfl ?_)
                            refine RefL.pure rfl rfl (RanP.assign rfl) ?_
                            refine RefL.pure rfl rfl (RanP.assign rfl) ?_
                            refine RefL.nil ?_
                            refine RefE.next ?_
                            refine RefC.ret ?_
                            refine RefE.thenRet ?_
                            refine RefE.retV rfl ?_
                            refine RefV.cellG Try.isAgg59 Try.sizeOf59 rfl fun r45 => ?_
                            refine RefV.tmp rfl ?_
                            refine RefV.tmp rfl ?_
                            exact RefV.nil rfl
                          · refine RefC.skip ?_
                            refine RefE.next ?_
                            refine RefC.seq ?_
                            refine RefC.draw mixed [0, 1, 0, 0, 12, 31, 63, 127] [.lp 0, .li 1, .lp 2, .lp 3, .lp 4, .hv 5, .lp 6, .hv 7] (by kernel_rfl) ?_
                            refine RefD.pure (at_ rfl) rfl (RanP.fieldAddr fa_59_3 rfl) ?_
                            refine RefD.li0 (at_ rfl) rfl (Lt.ldG (τ := A4u8) Try.isAgg57 Try.sizeOf57 rfl fun x46 => ?_)
                            refine RefD.pure (at_ rfl) rfl (RanP.move rfl) ?_
                            refine RefD.pure (at_ rfl) rfl (RanP.move rfl) ?_
                            refine RefD.any (at_ rfl) rfl (Lt.slStr (kl := .i64) (kh := .u64) Try.underlying9 rfl rfl rfl fun x47 => ?_)
                            refine RefD.hv (at_ rfl) rfl (Hv.call (ref08_Apply_ref K x46 (0 : Int) x47) Try.call83 rfl rfl rfl fun x48 => ?_)
                            refine RefD.pure (at_ rfl) rfl (RanP.fieldAddr fa_59_4 rfl) ?_
                            refine RefD.hv (at_ rfl) rfl (Hv.st Try.sizeOf9 rfl rfl rfl ?_)
                            refine RefD.nil ?_
                            refine RefE.next ?_
                            refine RefC.seq ?_
                            refine RefC.region ?_
                            refine RefL.li rfl rfl (Lt.ldG (τ := Tapi_Frame) Try.isAgg59 Try.sizeOf59 rfl fun x49 => ?_)
                            refine RefL.pure rfl rfl (RanP.move rfl) ?_
                            refine RefL.pure rfl rfl (RanP.lenS rfl Try.underlying9 rfl) ?_
                            refine RefL.pure rfl rfl (RanP.move rfl) ?_
                            refine RefL.pure rfl rfl (RanP.lenS rfl Try.underlying9 rfl) ?_
                            refine RefL.pure rfl rfl (RanP.sub rfl rfl) ?_
                            refine RefL.pure rfl rfl (RanP.move rfl) ?_
                            refine RefL.pure rfl rfl (RanP.conv Try.underlying133 Try.underlying3 rfl) ?_
                            refine RefL.pure rfl rfl (RanP.add rfl rfl) ?_
                            refine RefL.hv rfl rfl (Hv.st Try.sizeOf59 rfl rfl rfl ?_)
                            refine RefL.pure rfl rfl (RanP.assign rfl) ?_
                            refine RefL.lt 5 (fun y => .int .i64 y) rfl fun x50 => ?_
                            refine RefL.pure rfl rfl (RanP.assign rfl) ?_
                            refine RefL.nil ?_
                            refine RefE.next ?_
                            refine RefC.ret ?_
                            refine RefE.retV rfl ?_
                            refine RefV.cellG Try.isAgg59 Try.sizeOf59 rfl fun r51 => ?_
                            refine RefV.tmp rfl ?_
                            refine RefV.tmp rfl ?_
                            exact RefV.nil rfl

end Go.Proofs.Ytjdnjlnfcbaokaa

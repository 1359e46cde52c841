/-
  Go functions as programs over the world, and that the model's code does what they say. Printed by gen.py (own work).
-/
import Derived.Test.YtjdnjlnfcbaokaaFn2
set_option linter.unusedVariables false
set_option linter.unusedSimpArgs false
namespace Go.Proofs.Ytjdnjlnfcbaokaa
open Go Go.Lg

def utf_Checker_Feed_l0 (K : Nat) (a1 : Sl) (a0 : Option Addr) (again : Int → G (Unit ⊕ Int)) (s25 : Int) : G (Unit ⊕ Int) :=
  if (decide (s25 < (a1.n : Int))) = true then
    ixA a1 s25 1 fun x26 =>
    ldI .u8 x26 fun x27 =>
    nn a0 fun x28 =>
    ldB (x28.add 4) fun x29 =>
    bnd (
      if x29 = true then
        ret true
      else
        bnd (utf_Checker_take K a0 x27) fun x31 =>
        ret (!x31)) fun (x30 : Bool) =>
    if x30 = true then
      nn a0 fun x32 =>
      st (x32.add 4) (.bool true) <|
      inr (ret s25)
    else
      again ((IntKind.wrap .i64 (s25 + (1 : Int))))
  else
    ret (.inl ())
def utf_Checker_Feed (K : Nat) (a0 : Option Addr) (a1 : Sl) : G (Int) :=
  bnd (
    loopG (utf_Checker_Feed_l0 K a1 a0) K ((0 : Int))) (sumK fun (s33 : Unit) =>
  lt (a1.n : Int) fun x34 =>
  ret x34)
set_option maxRecDepth 100000 in
theorem utf_Checker_Feed_ref (K : Nat) (a0 : Option Addr) (a1 : Sl) : Does Try.prog 91 [.pointer a0, .slice a1.a a1.n a1.c] (utf_Checker_Feed K a0 a1) (fun r => .int .i64 r) := by
  refine Does.of Try.func91 rfl rfl rfl ?_
  unfold utf_Checker_Feed
  refine RefC.seq ?_
  refine RefC.region ?_
  refine RefL.pure rfl rfl (RanP.assign rfl) ?_
  refine RefL.nil ?_
  refine RefE.next ?_
  refine RefC.seq ?_
  refine RefC.seq ?_
  refine RefC.region ?_
  refine RefL.pure rfl rfl (RanP.move rfl) ?_
  refine RefL.pure rfl rfl (RanP.lenSl rfl Try.underlying36 rfl) ?_
  refine RefL.pure rfl rfl (RanP.move rfl) ?_
  refine RefL.nil ?_
  refine RefE.next ?_
  refine RefC.cutSum (enc := fun (s33 : Unit) => ([(1, .slice a1.a a1.n a1.c)] : Env)) (KThen.mono KRet.mono) ?_ ?_
  · refine RefC.block ?_
    refine RefC.loopW (enc := fun (s25 : Int) => ([(9, .int .i64 s25), (0, .pointer a0), (1, .slice a1.a a1.n a1.c), (7, .slice a1.a a1.n a1.c), (8, .int .i64 (a1.n : Int))] : Env)) ⟨rfl, rfl, rfl, rfl, rfl, trivial⟩ ?_ _
    intro again k ih s25
    unfold utf_Checker_Feed_l0
    refine RefC.seq ?_
    refine RefC.region ?_
    refine RefL.pure rfl rfl (RanP.lss rfl rfl) ?_
    refine RefL.nil ?_
    refine RefE.next ?_
    refine RefC.seq ?_
    refine RefC.cond rfl ?_ ?_
    · refine RefC.skip ?_
      refine RefE.next ?_
      refine RefC.seq ?_
      refine RefC.block ?_
      refine RefC.seq ?_
      refine RefC.region ?_
      refine RefL.pure rfl rfl (RanP.move rfl) ?_
      refine RefL.li rfl rfl (Lt.ixA Try.underlying36 Try.sizeOf5 rfl rfl fun x26 => ?_)
      refine RefL.li rfl rfl (Lt.ldI Try.isAgg5 rfl fun x27 => ?_)
      refine RefL.pure rfl rfl (RanP.assign rfl) ?_
      refine RefL.pure rfl rfl (RanP.assign rfl) ?_
      refine RefL.nil ?_
      refine RefE.next ?_
      refine RefC.seq ?_
      refine RefC.region ?_
      refine RefL.pure rfl rfl (RanP.move rfl) ?_
      refine RefL.li rfl rfl (Lt.nn rfl fun x28 => ?_)
      refine RefL.pure rfl rfl (RanP.fieldAddr fa_119_3 rfl) ?_
      refine RefL.li rfl rfl (Lt.ldB Try.isAgg4 rfl fun x29 => ?_)
      refine RefL.pure rfl rfl (RanP.move rfl) ?_
      refine RefL.cut (enc := fun (x30 : Bool) => ([(23, .bool x30), (0, .pointer a0), (1, .slice a1.a a1.n a1.c), (5, .int .i64 s25), (7, .slice a1.a a1.n a1.c), (8, .int .i64 (a1.n : Int)), (9, .int .i64 s25)] : Env)) 5 ?_ ?_
      · refine RefL.ite (s := 18) rfl ?_ ?_
        · refine RefL.skip rfl rfl ?_
          refine RefL.skip rfl rfl ?_
          refine RefL.skip rfl rfl ?_
          refine RefL.skip rfl rfl ?_
          refine RefL.pure rfl rfl (RanP.pickT rfl rfl) ?_
          refine RefL.nil ?_
          exact RefE.fin (s := true) ⟨rfl, rfl, rfl, rfl, rfl, rfl, rfl, trivial⟩
        · refine RefL.pure rfl rfl (RanP.move rfl) ?_
          refine RefL.pure rfl rfl (RanP.move rfl) ?_
          refine RefL.hv rfl rfl (Hv.call (utf_Checker_take_ref K a0 x27) Try.call101 rfl rfl rfl fun x31 => ?_)
          refine RefL.pure rfl rfl (RanP.not rfl) ?_
          refine RefL.pure rfl rfl (RanP.pickF rfl rfl) ?_
          refine RefL.nil ?_
          exact RefE.fin (s := (!x31)) ⟨rfl, rfl, rfl, rfl, rfl, rfl, rfl, trivial⟩
      · intro x30
        refine RefL.nil ?_
        refine RefE.next ?_
        refine RefC.cond rfl ?_ ?_
        · refine RefC.seq ?_
          refine RefC.region ?_
          refine RefL.pure rfl rfl (RanP.move rfl) ?_
          refine RefL.li rfl rfl (Lt.nn rfl fun x32 => ?_)
          refine RefL.pure rfl rfl (RanP.fieldAddr fa_119_3 rfl) ?_
          refine RefL.hv rfl rfl (Hv.st Try.sizeOf4 rfl rfl rfl ?_)
          refine RefL.nil ?_
          refine RefE.next ?_
          refine RefC.seq ?_
          refine RefC.region ?_
          refine RefL.pure rfl rfl (RanP.move rfl) ?_
          refine RefL.pure rfl rfl (RanP.assign rfl) ?_
          refine RefL.nil ?_
          refine RefE.next ?_
          refine RefC.ret ?_
          refine RefE.blockRet ?_
          refine RefE.thenRet ?_
          refine RefE.roundRet ?_
          refine RefE.blockRet ?_
          refine RefE.finR ?_
          refine RefE.thenRet ?_
          refine RefE.retV rfl ?_
          refine RefV.tmp rfl ?_
          exact RefV.nil rfl
        · refine RefC.skip ?_
          refine RefE.blockNormal ?_
          refine RefE.next ?_
          refine RefC.region ?_
          refine RefL.pure rfl rfl (RanP.add rfl rfl) ?_
          refine RefL.pure rfl rfl (RanP.move rfl) ?_
          refine RefL.nil ?_
          exact RefE.again (ih ((IntKind.wrap .i64 (s25 + (1 : Int))))) ⟨rfl, rfl, rfl, rfl, rfl, trivial⟩
    · refine RefC.exit ?_
      refine RefE.thenExit ?_
      refine RefE.roundExit ?_
      refine RefE.blockExit ?_
      exact RefE.finL (s := ()) ⟨rfl, trivial⟩
  · intro s33
    refine RefE.next ?_
    refine RefC.seq ?_
    refine RefC.region ?_
    refine RefL.pure rfl rfl (RanP.move rfl) ?_
    refine RefL.pure rfl rfl (RanP.lenSl rfl Try.underlying36 rfl) ?_
    refine RefL.pure rfl rfl (RanP.assign rfl) ?_
    refine RefL.lt 4 (fun y => .int .i64 y) rfl fun x34 => ?_
    refine RefL.nil ?_
    refine RefE.next ?_
    refine RefC.ret ?_
    refine RefE.retV rfl ?_
    refine RefV.tmp rfl ?_
    exact RefV.nil rfl

def utf_Checker_Whole (K : Nat) (a0 : Option Addr) : G (Bool) :=
  nn a0 fun x1 =>
  ldB (x1.add 4) fun x2 =>
  bnd (
    if (!x2) = true then
      nn a0 fun x4 =>
      ldI .i64 (x4.add 0) fun x5 =>
      ret (x5 == (0 : Int))
    else
      ret false) fun (x3 : Bool) =>
  ret x3
set_option maxRecDepth 100000 in
theorem utf_Checker_Whole_ref (K : Nat) (a0 : Option Addr) : Does Try.prog 93 [.pointer a0] (utf_Checker_Whole K a0) (fun r => .bool r) := by
  refine Does.of Try.func93 rfl rfl rfl ?_
  unfold utf_Checker_Whole
  refine RefC.seq ?_
  refine RefC.region ?_
  refine RefL.pure rfl rfl (RanP.assign rfl) ?_
  refine RefL.nil ?_
  refine RefE.next ?_
  refine RefC.seq ?_
  refine RefC.region ?_
  refine RefL.pure rfl rfl (RanP.move rfl) ?_
  refine RefL.li rfl rfl (Lt.nn rfl fun x1 => ?_)
  refine RefL.pure rfl rfl (RanP.fieldAddr fa_119_3 rfl) ?_
  refine RefL.li rfl rfl (Lt.ldB Try.isAgg4 rfl fun x2 => ?_)
  refine RefL.pure rfl rfl (RanP.not rfl) ?_
  refine RefL.pure rfl rfl (RanP.move rfl) ?_
  refine RefL.cut (enc := fun (x3 : Bool) => ([(14, .bool x3)] : Env)) 6 ?_ ?_
  · refine RefL.ite (s := 8) rfl ?_ ?_
    · refine RefL.pure rfl rfl (RanP.move rfl) ?_
      refine RefL.li rfl rfl (Lt.nn rfl fun x4 => ?_)
      refine RefL.pure rfl rfl (RanP.fieldAddr fa_119_0 rfl) ?_
      refine RefL.li rfl rfl (Lt.ldI Try.isAgg3 rfl fun x5 => ?_)
      refine RefL.pure rfl rfl (RanP.eql rfl rfl) ?_
      refine RefL.pure rfl rfl (RanP.pickT rfl rfl) ?_
      refine RefL.nil ?_
      exact RefE.fin (s := (x5 == (0 : Int))) ⟨rfl, trivial⟩
    · refine RefL.skip rfl rfl ?_
      refine RefL.skip rfl rfl ?_
      refine RefL.skip rfl rfl ?_
      refine RefL.skip rfl rfl ?_
      refine RefL.skip rfl rfl ?_
      refine RefL.pure rfl rfl (RanP.pickF rfl rfl) ?_
      refine RefL.nil ?_
      exact RefE.fin (s := false) ⟨rfl, trivial⟩
  · intro x3
    refine RefL.pure rfl rfl (RanP.assign rfl) ?_
    refine RefL.nil ?_
    refine RefE.next ?_
    refine RefC.ret ?_
    refine RefE.retV rfl ?_
    refine RefV.tmp rfl ?_
    exact RefV.nil rfl

def utf_Count (K : Nat) (a0 : Sl) : G (Int × Bool) :=
  bnd (utf_New K) fun x1 =>
  bnd (utf_Checker_Feed K x1 a0) fun x2 =>
  bnd (utf_Checker_Whole K x1) fun x3 =>
  if (!x3) = true then
    ret ((0 : Int), false)
  else
    nn x1 fun x4 =>
    ldI .i64 (x4.add 3) fun x5 =>
    ret (x5, true)
set_option maxRecDepth 100000 in
theorem utf_Count_ref (K : Nat) (a0 : Sl) : Does Try.prog 80 [.slice a0.a a0.n a0.c] (utf_Count K a0) (fun r => .tuple #[.int .i64 r.1, .bool r.2]) := by
  refine Does.of Try.func80 rfl rfl rfl ?_
  unfold utf_Count
  refine RefC.seq ?_
  refine RefC.region ?_
  refine RefL.pure rfl rfl (RanP.assign rfl) ?_
  refine RefL.pure rfl rfl (RanP.assign rfl) ?_
  refine RefL.nil ?_
  refine RefE.next ?_
  refine RefC.seq ?_
  refine RefC.region ?_
  refine RefL.hv rfl rfl (Hv.call (utf_New_ref K) Try.call46 rfl rfl rfl fun x1 => ?_)
  refine RefL.pure rfl rfl (RanP.assign rfl) ?_
  refine RefL.nil ?_
  refine RefE.next ?_
  refine RefC.seq ?_
  refine RefC.region ?_
  refine RefL.pure rfl rfl (RanP.move rfl) ?_
  refine RefL.pure rfl rfl (RanP.move rfl) ?_
  refine RefL.hv rfl rfl (Hv.call (utf_Checker_Feed_ref K x1 a0) Try.call91 rfl rfl rfl fun x2 => ?_)
  refine RefL.nil ?_
  refine RefE.next ?_
  refine RefC.seq ?_
  refine RefC.seq ?_
  refine RefC.region ?_
  refine RefL.pure rfl rfl (RanP.move rfl) ?_
  refine RefL.hv rfl rfl (Hv.call (utf_Checker_Whole_ref K x1) Try.call93 rfl rfl rfl fun x3 => ?_)
  refine RefL.pure rfl rfl (RanP.not rfl) ?_
  refine RefL.nil ?_
  refine RefE.next ?_
  refine RefC.cond rfl ?_ ?_
  · refine RefC.seq ?_
    refine RefC.region ?_
    refine RefL.pure rfl rfl (RanP.assign rfl) ?_
    refine RefL.pure rfl rfl (RanP.assign rfl) ?_
    refine RefL.nil ?_
    refine RefE.next ?_
    refine RefC.ret ?_
    refine RefE.thenRet ?_
    refine RefE.retV rfl ?_
    refine RefV.tmp rfl ?_
    refine RefV.tmp rfl ?_
    exact RefV.nil rfl
  · refine RefC.skip ?_
    refine RefE.next ?_
    refine RefC.seq ?_
    refine RefC.region ?_
    refine RefL.pure rfl rfl (RanP.move rfl) ?_
    refine RefL.li rfl rfl (Lt.nn rfl fun x4 => ?_)
    refine RefL.pure rfl rfl (RanP.fieldAddr fa_119_2 rfl) ?_
    refine RefL.li rfl rfl (Lt.ldI Try.isAgg3 rfl fun x5 => ?_)
    refine RefL.pure rfl rfl (RanP.assign rfl) ?_
    refine RefL.pure rfl rfl (RanP.assign rfl) ?_
    refine RefL.nil ?_
    refine RefE.next ?_
    refine RefC.ret ?_
    refine RefE.retV rfl ?_
    refine RefV.tmp rfl ?_
    refine RefV.tmp rfl ?_
    exact RefV.nil rfl

def utf_Valid (K : Nat) (a0 : Sl) : G (Bool) :=
  bnd (utf_Count K a0) fun x1 =>
  ret x1.2
set_option maxRecDepth 100000 in
theorem utf_Valid_ref (K : Nat) (a0 : Sl) : Does Try.prog 58 [.slice a0.a a0.n a0.c] (utf_Valid K a0) (fun r => .bool r) := by
  refine Does.of Try.func58 rfl rfl rfl ?_
  unfold utf_Valid
  refine RefC.seq ?_
  refine RefC.region ?_
  refine RefL.pure rfl rfl (RanP.assign rfl) ?_
  refine RefL.nil ?_
  refine RefE.next ?_
  refine RefC.seq ?_
  refine RefC.region ?_
  refine RefL.pure rfl rfl (RanP.move rfl) ?_
  refine RefL.hv rfl rfl (Hv.call (utf_Count_ref K a0) Try.call80 rfl rfl rfl fun x1 => ?_)
  refine RefL.pure rfl rfl (RanP.move rfl) ?_
  refine RefL.pure rfl rfl (RanP.extract rfl rfl) ?_
  refine RefL.pure rfl rfl (RanP.extract rfl rfl) ?_
  refine RefL.pure rfl rfl (RanP.assign rfl) ?_
  refine RefL.pure rfl rfl (RanP.assign rfl) ?_
  refine RefL.nil ?_
  refine RefE.next ?_
  refine RefC.seq ?_
  refine RefC.region ?_
  refine RefL.pure rfl rfl (RanP.move rfl) ?_
  refine RefL.pure rfl rfl (RanP.assign rfl) ?_
  refine RefL.nil ?_
  refine RefE.next ?_
  refine RefC.ret ?_
  refine RefE.retV rfl ?_
  refine RefV.tmp rfl ?_
  exact RefV.nil rfl

def close_Get (K : Nat) (a0 : ByteArray) : G (Int × ByteArray × Int) :=
  lt (ByteArray.mk #[]) fun x1 =>
  if (sEq a0 (ByteArray.mk #[])) = true then
    lt (ByteArray.mk #[]) fun x2 =>
    ret ((1005 : Int), x2, (0 : Int))
  else
    bnd (
      if (decide ((a0.size : Int) < (2 : Int))) = true then
        ret true
      else
        ret (decide ((125 : Int) < (a0.size : Int)))) fun (x3 : Bool) =>
    if x3 = true then
      lt (ByteArray.mk #[]) fun x4 =>
      ret ((0 : Int), x4, (110 : Int))
    else
      drw <|
      chk (0 ≤ (0 : Int) ∧ (0 : Int) < (a0.size : Int)) <|
      chk (0 ≤ (1 : Int) ∧ (1 : Int) < (a0.size : Int)) <|
      slStr a0 (some (2 : Int)) none fun x7 =>
      lt (orI .i64 (shlI .i64 (IntKind.wrap .i64 (bt a0 (0 : Int))) (8 : Int)) (IntKind.wrap .i64 (bt a0 (1 : Int)))) fun x8 =>
      bnd (close_Valid K x8) fun x9 =>
      lt (!x9) fun x10 =>
      if x10 = true then
        lt (ByteArray.mk #[]) fun x11 =>
        ret ((0 : Int), x11, (110 : Int))
      else
        bytesOf 5 x7 fun x12 =>
        bnd (utf_Valid K x12) fun x13 =>
        lt (!x13) fun x14 =>
        if x14 = true then
          lt (ByteArray.mk #[]) fun x15 =>
          ret ((0 : Int), x15, (111 : Int))
        else
          ret (x8, x7, (0 : Int))
set_option maxRecDepth 100000 in
theorem close_Get_ref (K : Nat) (a0 : ByteArray) : Does Try.prog 88 [.string a0] (close_Get K a0) (fun r => .tuple #[.int .i64 r.1, .string r.2.1, .int .i64 r.2.2]) := by
  refine Does.of Try.func88 rfl rfl rfl ?_
  unfold close_Get
  refine RefC.seq ?_
  refine RefC.region ?_
  refine RefL.pure rfl rfl (RanP.assign rfl) ?_
  refine RefL.pure rfl rfl (RanP.assign rfl) ?_
  refine RefL.lt 3 (fun y => .string y) rfl fun x1 => ?_
  refine RefL.pure rfl rfl (RanP.assign rfl) ?_
  refine RefL.nil ?_
  refine RefE.next ?_
  refine RefC.seq ?_
  refine RefC.seq ?_
  refine RefC.region ?_
  refine RefL.pure rfl rfl (RanP.move rfl) ?_
  refine RefL.pure rfl rfl (RanP.eqlS rfl rfl) ?_
  refine RefL.nil ?_
  refine RefE.next ?_
  refine RefC.cond rfl ?_ ?_
  · refine RefC.seq ?_
    refine RefC.region ?_
    refine RefL.pure rfl rfl (RanP.assign rfl) ?_
    refine RefL.pure rfl rfl (RanP.assign rfl) ?_
    refine RefL.lt 3 (fun y => .string y) rfl fun x2 => ?_
    refine RefL.pure rfl rfl (RanP.assign rfl) ?_
    refine RefL.nil ?_
    refine RefE.next ?_
    refine RefC.ret ?_
    refine RefE.thenRet ?_
    refine RefE.retV rfl ?_
    refine RefV.tmp rfl ?_
    refine RefV.tmp rfl ?_
    refine RefV.tmp rfl ?_
    exact RefV.nil rfl
  · refine RefC.skip ?_
    refine RefE.next ?_
    refine RefC.seq ?_
    refine RefC.seq ?_
    refine RefC.region ?_
    refine RefL.pure rfl rfl (RanP.move rfl) ?_
    refine RefL.pure rfl rfl (RanP.lenS rfl Try.underlying9 rfl) ?_
    refine RefL.pure rfl rfl (RanP.lss rfl rfl) ?_
    refine RefL.pure rfl rfl (RanP.move rfl) ?_
    refine RefL.cut (enc := fun (x3 : Bool) => ([(16, .bool x3), (0, .string a0)] : Env)) 4 ?_ ?_
    · refine RefL.ite (s := 12) rfl ?_ ?_
      · refine RefL.skip rfl rfl ?_
        refine RefL.skip rfl rfl ?_
        refine RefL.skip rfl rfl ?_
        refine RefL.pure rfl rfl (RanP.pickT rfl rfl) ?_
        refine RefL.nil ?_
        exact RefE.fin (s := true) ⟨rfl, rfl, trivial⟩
      · refine RefL.pure rfl rfl (RanP.move rfl) ?_
        refine RefL.pure rfl rfl (RanP.lenS rfl Try.underlying9 rfl) ?_
        refine RefL.pure rfl rfl (RanP.gtr rfl rfl) ?_
        refine RefL.pure rfl rfl (RanP.pickF rfl rfl) ?_
        refine RefL.nil ?_
        exact RefE.fin (s := (decide ((125 : Int) < (a0.size : Int)))) ⟨rfl, rfl, trivial⟩
    · intro x3
      refine RefL.nil ?_
      refine RefE.next ?_
      refine RefC.cond rfl ?_ ?_
      · refine RefC.seq ?_
        refine RefC.region ?_
        refine RefL.pure rfl rfl (RanP.assign rfl) ?_
        refine RefL.pure rfl rfl (RanP.assign rfl) ?_
        refine RefL.lt 3 (fun y => .string y) rfl fun x4 => ?_
        refine RefL.pure rfl rfl (RanP.assign rfl) ?_
        refine RefL.nil ?_
        refine RefE.next ?_
        refine RefC.ret ?_
        refine RefE.thenRet ?_
        refine RefE.retV rfl ?_
        refine RefV.tmp rfl ?_
        refine RefV.tmp rfl ?_
        refine RefV.tmp rfl ?_
        exact RefV.nil rfl
      · refine RefC.skip ?_
        refine RefE.next ?_
        refine RefC.seq ?_
        refine RefC.draw mixed [0, 1, 3, 7, 0, 16, 48, 127, 0, 256, 255, 2047] [.lp 0, .lp 1, .lp 2, .lp 3, .lp 4, .lp 5, .lp 6, .lp 7, .lp 8, .lp 9, .lp 10, .lp 11] (by kernel_rfl) ?_
        refine RefD.pure (at_ rfl) rfl (RanP.move rfl) ?_
        refine RefD.chk fun h5 => ?_
        refine RefD.pure (at_ rfl) rfl (RanP.indexS h5 Try.underlying9 rfl rfl) ?_
        refine RefD.pure (at_ rfl) rfl (RanP.conv Try.underlying5 Try.underlying3 rfl) ?_
        refine RefD.pure (at_ rfl) rfl (RanP.shl (by decide) rfl rfl) ?_
        refine RefD.pure (at_ rfl) rfl (RanP.move rfl) ?_
        refine RefD.chk fun h6 => ?_
        refine RefD.pure (at_ rfl) rfl (RanP.indexS h6 Try.underlying9 rfl rfl) ?_
        refine RefD.pure (at_ rfl) rfl (RanP.conv Try.underlying5 Try.underlying3 rfl) ?_
        refine RefD.pure (at_ rfl) rfl (RanP.or rfl rfl) ?_
        refine RefD.pure (at_ rfl) rfl (RanP.move rfl) ?_
        refine RefD.any (at_ rfl) rfl (Lt.slStr (kl := .i64) (kh := .i64) Try.underlying9 rfl rfl rfl fun x7 => ?_)
        refine RefD.pure (at_ rfl) rfl (RanP.assign rfl) ?_
        refine RefD.lt 5 (fun y => .int .i64 y) rfl fun x8 => ?_
        refine RefD.pure (at_ rfl) rfl (RanP.assign rfl) ?_
        refine RefD.nil ?_
        refine RefE.next ?_
        refine RefC.seq ?_
        refine RefC.block ?_
        refine RefC.seq ?_
        refine RefC.region ?_
        refine RefL.pure rfl rfl (RanP.move rfl) ?_
        refine RefL.hv rfl rfl (Hv.call (close_Valid_ref K x8) Try.call57 rfl rfl rfl fun x9 => ?_)
        refine RefL.pure rfl rfl (RanP.not rfl) ?_
        refine RefL.pure rfl rfl (RanP.assign rfl) ?_
        refine RefL.lt 27 (fun y => .bool y) rfl fun x10 => ?_
        refine RefL.nil ?_
        refine RefE.next ?_
        refine RefC.cond rfl ?_ ?_
        · refine RefC.seq ?_
          refine RefC.region ?_
          refine RefL.pure rfl rfl (RanP.assign rfl) ?_
          refine RefL.pure rfl rfl (RanP.assign rfl) ?_
          refine RefL.lt 3 (fun y => .string y) rfl fun x11 => ?_
          refine RefL.pure rfl rfl (RanP.assign rfl) ?_
          refine RefL.nil ?_
          refine RefE.next ?_
          refine RefC.ret ?_
          refine RefE.blockRet ?_
          refine RefE.thenRet ?_
          refine RefE.retV rfl ?_
          refine RefV.tmp rfl ?_
          refine RefV.tmp rfl ?_
          refine RefV.tmp rfl ?_
          exact RefV.nil rfl
        · refine RefC.seq ?_
          refine RefC.region ?_
          refine RefL.pure rfl rfl (RanP.move rfl) ?_
          refine RefL.hv rfl rfl (Hv.bytesOf Try.underlying9 Try.underlying36 Try.underlying5 rfl fun x12 => ?_)
          refine RefL.hv rfl rfl (Hv.call (utf_Valid_ref K x12) Try.call58 rfl rfl rfl fun x13 => ?_)
          refine RefL.pure rfl rfl (RanP.not rfl) ?_
          refine RefL.pure rfl rfl (RanP.assign rfl) ?_
          refine RefL.lt 31 (fun y => .bool y) rfl fun x14 => ?_
          refine RefL.nil ?_
          refine RefE.next ?_
          refine RefC.cond rfl ?_ ?_
          · refine RefC.seq ?_
            refine RefC.region ?_
            refine RefL.pure rfl rfl (RanP.assign rfl) ?_
            refine RefL.pure rfl rfl (RanP.assign rfl) ?_
            refine RefL.lt 3 (fun y => .string y) rfl fun x15 => ?_
            refine RefL.pure rfl rfl (RanP.assign rfl) ?_
            refine RefL.nil ?_
            refine RefE.next ?_
            refine RefC.ret ?_
            refine RefE.blockRet ?_
            refine RefE.thenRet ?_
            refine RefE.retV rfl ?_
            refine RefV.tmp rfl ?_
            refine RefV.tmp rfl ?_
            refine RefV.tmp rfl ?_
            exact RefV.nil rfl
          · refine RefC.skip ?_
            refine RefE.blockNormal ?_
            refine RefE.next ?_
            refine RefC.seq ?_
            refine RefC.region ?_
            refine RefL.pure rfl rfl (RanP.move rfl) ?_
            refine RefL.pure rfl rfl (RanP.move rfl) ?_
            refine RefL.pure rfl rfl (RanP.assign rfl) ?_
            refine RefL.pure rfl rfl (RanP.assign rfl) ?_
            refine RefL.pure rfl rfl (RanP.assign rfl) ?_
            refine RefL.nil ?_
            refine RefE.next ?_
            refine RefC.ret ?_
            refine RefE.retV rfl ?_
            refine RefV.tmp rfl ?_
            refine RefV.tmp rfl ?_
            refine RefV.tmp rfl ?_
            exact RefV.nil rfl

def msg_Machine_end (K : Nat) (a0 : Option Addr) (a1 : Tapi_Frame) : G (Tapi_Event × Bool × Int) :=
  new (Agg.cells a1) 59 fun x1 =>
  new [.int .i64 (0 : Int), .int .i64 (0 : Int), .string (ByteArray.mk #[])] 47 fun x2 =>
  ldS (x1.add 7) fun x3 =>
  bnd (close_Get K x3) fun x4 =>
  if (x4.2.2 != (0 : Int)) = true then
    bnd (msg_Machine_stop K a0 x4.2.2) fun x5 =>
    st x2 (.agg (Agg.cells x5.1).toArray) <|
    ldG (α := Tapi_Event) x2 fun r6 =>
    ret (r6, x5.2.1, x5.2.2)
  else
    nn a0 fun x7 =>
    st (x7.add 4) (.bool true) <|
    bnd (msg_Machine_stop K a0 (0 : Int)) fun x8 =>
    st x2 (.agg (Agg.cells (Tapi_Event.mk (8 : Int) x4.1 x4.2.1)).toArray) <|
    ldG (α := Tapi_Event) x2 fun r9 =>
    ret (r9, true, (0 : Int))
set_option maxRecDepth 100000 in
theorem msg_Machine_end_ref (K : Nat) (a0 : Option Addr) (a1 : Tapi_Frame) : Does Try.prog 67 [.pointer a0, .agg (Agg.cells a1).toArray] (msg_Machine_end K a0 a1) (fun r => .tuple #[.agg (Agg.cells r.1).toArray, .bool r.2.1, .int .i64 r.2.2]) := by
  refine Does.of Try.func67 rfl rfl rfl ?_
  unfold msg_Machine_end
  refine RefC.seq ?_
  refine RefC.region ?_
  refine RefL.hv rfl rfl (Hv.box rfl rfl fun x1 => ?_)
  refine RefL.hv rfl rfl (Hv.newZ Try.zeroValue47 rfl fun x2 => ?_)
  refine RefL.pure rfl rfl (RanP.assign rfl) ?_
  refine RefL.pure rfl rfl (RanP.assign rfl) ?_
  refine RefL.nil ?_
  refine RefE.next ?_
  refine RefC.seq ?_
  refine RefC.region ?_
  refine RefL.pure rfl rfl (RanP.fieldAddr fa_59_4 rfl) ?_
  refine RefL.li rfl rfl (Lt.ldS Try.isAgg9 rfl fun x3 => ?_)
  refine RefL.hv rfl rfl (Hv.call (close_Get_ref K x3) Try.call88 rfl rfl rfl fun x4 => ?_)
  refine RefL.pure rfl rfl (RanP.move rfl) ?_
  refine RefL.pure rfl rfl (RanP.extract rfl rfl) ?_
  refine RefL.pure rfl rfl (RanP.extract rfl rfl) ?_
  refine RefL.pure rfl rfl (RanP.extract rfl rfl) ?_
  refine RefL.pure rfl rfl (RanP.assign rfl) ?_
  refine RefL.pure rfl rfl (RanP.assign rfl) ?_
  refine RefL.pure rfl rfl (RanP.assign rfl) ?_
  refine RefL.nil ?_
  refine RefE.next ?_
  refine RefC.seq ?_
  refine RefC.seq ?_
  refine RefC.region ?_
  refine RefL.pure rfl rfl (RanP.move rfl) ?_
  refine RefL.pure rfl rfl (RanP.neq rfl rfl) ?_
  refine RefL.nil ?_
  refine RefE.next ?_
  refine RefC.cond rfl ?_ ?_
  · refine RefC.seq ?_
    refine RefC.region ?_
    refine RefL.pure rfl rfl (RanP.move rfl) ?_
    refine RefL.pure rfl rfl (RanP.move rfl) ?_
    refine RefL.hv rfl rfl (Hv.call (msg_Machine_stop_ref K a0 x4.2.2) Try.call66 rfl rfl rfl fun x5 => ?_)
    refine RefL.pure rfl rfl (RanP.extract rfl rfl) ?_
    refine RefL.pure rfl rfl (RanP.extract rfl rfl) ?_
    refine RefL.pure rfl rfl (RanP.extract rfl rfl) ?_
    refine RefL.hv rfl rfl (Hv.st Try.sizeOf47 rfl rfl rfl ?_)
    refine RefL.pure rfl rfl (RanP.assign rfl) ?_
    refine RefL.pure rfl rfl (RanP.assign rfl) ?_
    refine RefL.nil ?_
    refine RefE.next ?_
    refine RefC.ret ?_
    refine RefE.thenRet ?_
    refine RefE.retV rfl ?_
    refine RefV.cellG Try.isAgg47 Try.sizeOf47 rfl fun r6 => ?_
    refine RefV.tmp rfl ?_
    refine RefV.tmp rfl ?_
    exact RefV.nil rfl
  · refine RefC.skip ?_
    refine RefE.next ?_
    refine RefC.seq ?_
    refine RefC.region ?_
    refine RefL.pure rfl rfl (RanP.move rfl) ?_
    refine RefL.li rfl rfl (Lt.nn rfl fun x7 => ?_)
    refine RefL.pure rfl rfl (RanP.fieldAddr fa_97_4 rfl) ?_
    refine RefL.hv rfl rfl (Hv.st Try.sizeOf4 rfl rfl rfl ?_)
    refine RefL.nil ?_
    refine RefE.next ?_
    refine RefC.seq ?_
    refine RefC.region ?_
    refine RefL.pure rfl rfl (RanP.move rfl) ?_
    refine RefL.hv rfl rfl (Hv.call (msg_Machine_stop_ref K a0 (0 : Int)) Try.call66 rfl rfl rfl fun x8 => ?_)
    refine RefL.nil ?_
    refine RefE.next ?_
    refine RefC.seq ?_
    refine RefC.region ?_
    refine RefL.pure rfl rfl (RanP.move rfl) ?_
    refine RefL.pure rfl rfl (RanP.move rfl) ?_
    refine RefL.pure rfl rfl (RanP.build rfl (v := .agg (Agg.cells (Tapi_Event.mk (8 : Int) x4.1 x4.2.1)).toArray) (fun _ => by kernel_rfl)) ?_
    refine RefL.hv rfl rfl (Hv.st Try.sizeOf47 rfl rfl rfl ?_)
    refine RefL.pure rfl rfl (RanP.assign rfl) ?_
    refine RefL.pure rfl rfl (RanP.assign rfl) ?_
    refine RefL.nil ?_
    refine RefE.next ?_
    refine RefC.ret ?_
    refine RefE.retV rfl ?_
    refine RefV.cellG Try.isAgg47 Try.sizeOf47 rfl fun r9 => ?_
    refine RefV.tmp rfl ?_
    refine RefV.tmp rfl ?_
    exact RefV.nil rfl

def utf_Checker_Reset (K : Nat) (a0 : Option Addr) : G (Unit) :=
  nn a0 fun x1 =>
  st x1 (.agg (Agg.cells (Tutf_Checker.mk (0 : Int) (0 : Int) (0 : Int) (0 : Int) false)).toArray) <|
  ret ()
set_option maxRecDepth 100000 in
theorem utf_Checker_Reset_ref (K : Nat) (a0 : Option Addr) : Does Try.prog 89 [.pointer a0] (utf_Checker_Reset K a0) (fun _ => .tuple #[]) := by
  refine Does.of Try.func89 rfl rfl rfl ?_
  unfold utf_Checker_Reset
  refine RefC.region ?_
  refine RefL.pure rfl rfl (RanP.move rfl) ?_
  refine RefL.pure rfl rfl (RanP.build rfl (v := .agg (Agg.cells (Tutf_Checker.mk (0 : Int) (0 : Int) (0 : Int) (0 : Int) false)).toArray) (fun _ => by kernel_rfl)) ?_
  refine RefL.li rfl rfl (Lt.nn rfl fun x1 => ?_)
  refine RefL.hv rfl rfl (Hv.st Try.sizeOf119 rfl rfl rfl ?_)
  refine RefL.nil ?_
  refine RefE.endV rfl ?_
  exact RefV.nil rfl

def utf_Checker_Right (K : Nat) (a0 : Option Addr) : G (Bool) :=
  nn a0 fun x1 =>
  ldB (x1.add 4) fun x2 =>
  lt (!x2) fun x3 =>
  ret x3
set_option maxRecDepth 100000 in
theorem utf_Checker_Right_ref (K : Nat) (a0 : Option Addr) : Does Try.prog 92 [.pointer a0] (utf_Checker_Right K a0) (fun r => .bool r) := by
  refine Does.of Try.func92 rfl rfl rfl ?_
  unfold utf_Checker_Right
  refine RefC.seq ?_
  refine RefC.region ?_
  refine RefL.pure rfl rfl (RanP.assign rfl) ?_
  refine RefL.nil ?_
  refine RefE.next ?_
  refine RefC.seq ?_
  refine RefC.region ?_
  refine RefL.pure rfl rfl (RanP.move rfl) ?_
  refine RefL.li rfl rfl (Lt.nn rfl fun x1 => ?_)
  refine RefL.pure rfl rfl (RanP.fieldAddr fa_119_3 rfl) ?_
  refine RefL.li rfl rfl (Lt.ldB Try.isAgg4 rfl fun x2 => ?_)
  refine RefL.pure rfl rfl (RanP.not rfl) ?_
  refine RefL.pure rfl rfl (RanP.assign rfl) ?_
  refine RefL.lt 2 (fun y => .bool y) rfl fun x3 => ?_
  refine RefL.nil ?_
  refine RefE.next ?_
  refine RefC.ret ?_
  refine RefE.retV rfl ?_
  refine RefV.tmp rfl ?_
  exact RefV.nil rfl

def msg_Machine_data_1 (K : Nat) (a0 : Addr) (a1 : Addr) : G (Bool) :=
  drw <|
  wld fun w2 =>
  ldP a0 fun x1 =>
  nn x1 fun x3 =>
  wld fun w5 =>
  ldP (x3.add 3) fun x4 =>
  ldS (a1.add 7) fun x6 =>
  bytesOf 5 x6 fun x7 =>
  agr (like a0 1 w2) <|
  agr (like (x3.add 3) 1 w5) <|
  bnd (utf_Checker_Feed K x4 x7) fun x8 =>
  ldP a0 fun x9 =>
  nn x9 fun x10 =>
  ldP (x10.add 3) fun x11 =>
  bnd (utf_Checker_Right K x11) fun x12 =>
  bnd (
    if (!x12) = true then
      ret true
    else
      ldB (a1.add 0) fun x14 =>
      bnd (
        if x14 = true then
          ldP a0 fun x16 =>
          nn x16 fun x17 =>
          ldP (x17.add 3) fun x18 =>
          bnd (utf_Checker_Whole K x18) fun x19 =>
          ret (!x19)
        else
          ret false) fun (x15 : Bool) =>
      ret x15) fun (x13 : Bool) =>
  ret x13
set_option maxRecDepth 100000 in
theorem msg_Machine_data_1_ref (K : Nat) (a0 : Addr) (a1 : Addr) : Does Try.prog 90 [.pointer (some a0), .pointer (some a1)] (msg_Machine_data_1 K a0 a1) (fun r => .bool r) := by
  refine Does.of Try.func90 rfl rfl rfl ?_
  unfold msg_Machine_data_1
  refine RefC.seq ?_
  refine RefC.region ?_
  refine RefL.pure rfl rfl (RanP.assign rfl) ?_
  refine RefL.nil ?_
  refine RefE.next ?_
  refine RefC.seq ?_
  refine RefC.draw mixed [0, 1, 3, 7, 0, 16, 48, 127] [.li 0, .lp 1, .lp 2, .li 3, .lp 4, .li 5, .hv 6, .re 0, .re 3, .hv 7] (by kernel_rfl) ?_
  refine RefD.li (at_ rfl) rfl fun w2 => (Lt.ldP Try.isAgg66 rfl fun x1 => ?_)
  refine RefD.any (at_ rfl) rfl (Lt.nn rfl fun x3 => ?_)
  refine RefD.pure (at_ rfl) rfl (RanP.fieldAddr fa_97_3 rfl) ?_
  refine RefD.li (at_ rfl) rfl fun w5 => (Lt.ldP Try.isAgg94 rfl fun x4 => ?_)
  refine RefD.pure (at_ rfl) rfl (RanP.fieldAddr fa_59_4 rfl) ?_
  refine RefD.li0 (at_ rfl) rfl (Lt.ldS Try.isAgg9 rfl fun x6 => ?_)
  refine RefD.hv (at_ rfl) rfl (Hv.bytesOf Try.underlying9 Try.underlying36 Try.underlying5 rfl fun x7 => ?_)
  refine RefD.re rfl ?_
  refine RefD.re rfl ?_
  refine RefD.hv (at_ rfl) rfl (Hv.call (utf_Checker_Feed_ref K x4 x7) Try.call91 rfl rfl rfl fun x8 => ?_)
  refine RefD.nil ?_
  refine RefE.next ?_
  refine RefC.seq ?_
  refine RefC.region ?_
  refine RefL.li rfl rfl (Lt.ldP Try.isAgg66 rfl fun x9 => ?_)
  refine RefL.li rfl rfl (Lt.nn rfl fun x10 => ?_)
  refine RefL.pure rfl rfl (RanP.fieldAddr fa_97_3 rfl) ?_
  refine RefL.li rfl rfl (Lt.ldP Try.isAgg94 rfl fun x11 => ?_)
  refine RefL.hv rfl rfl (Hv.call (utf_Checker_Right_ref K x11) Try.call92 rfl rfl rfl fun x12 => ?_)
  refine RefL.pure rfl rfl (RanP.not rfl) ?_
  refine RefL.pure rfl rfl (RanP.move rfl) ?_
  refine RefL.cut (enc := fun (x13 : Bool) => ([(28, .bool x13)] : Env)) 11 ?_ ?_
  · refine RefL.ite (s := 17) rfl ?_ ?_
    · refine RefL.skip rfl rfl ?_
      refine RefL.skip rfl rfl ?_
      refine RefL.skip rfl rfl ?_
      refine RefL.skip rfl rfl ?_
      refine RefL.skip rfl rfl ?_
      refine RefL.skip rfl rfl ?_
      refine RefL.skip rfl rfl ?_
      refine RefL.skip rfl rfl ?_
      refine RefL.skip rfl rfl ?_
      refine RefL.skip rfl rfl ?_
      refine RefL.pure rfl rfl (RanP.pickT rfl rfl) ?_
      refine RefL.nil ?_
      exact RefE.fin (s := true) ⟨rfl, trivial⟩
    · refine RefL.pure rfl rfl (RanP.fieldAddr fa_59_0 rfl) ?_
      refine RefL.li rfl rfl (Lt.ldB Try.isAgg4 rfl fun x14 => ?_)
      refine RefL.pure rfl rfl (RanP.move rfl) ?_
      refine RefL.cut (enc := fun (x15 : Bool) => ([(27, .bool x15), (17, .bool false)] : Env)) 7 ?_ ?_
      · refine RefL.ite (s := 20) rfl ?_ ?_
        · refine RefL.li rfl rfl (Lt.ldP Try.isAgg66 rfl fun x16 => ?_)
          refine RefL.li rfl rfl (Lt.nn rfl fun x17 => ?_)
          refine RefL.pure rfl rfl (RanP.fieldAddr fa_97_3 rfl) ?_
          refine RefL.li rfl rfl (Lt.ldP Try.isAgg94 rfl fun x18 => ?_)
          refine RefL.hv rfl rfl (Hv.call (utf_Checker_Whole_ref K x18) Try.call93 rfl rfl rfl fun x19 => ?_)
          refine RefL.pure rfl rfl (RanP.not rfl) ?_
          refine RefL.pure rfl rfl (RanP.pickT rfl rfl) ?_
          refine RefL.nil ?_
          exact RefE.fin (s := (!x19)) ⟨rfl, rfl, trivial⟩
        · refine RefL.skip rfl rfl ?_
          refine RefL.skip rfl rfl ?_
          refine RefL.skip rfl rfl ?_
          refine RefL.skip rfl rfl ?_
          refine RefL.skip rfl rfl ?_
          refine RefL.skip rfl rfl ?_
          refine RefL.pure rfl rfl (RanP.pickF rfl rfl) ?_
          refine RefL.nil ?_
          exact RefE.fin (s := false) ⟨rfl, rfl, trivial⟩
      · intro x15
        refine RefL.pure rfl rfl (RanP.pickF rfl rfl) ?_
        refine RefL.nil ?_
        exact RefE.fin (s := x15) ⟨rfl, trivial⟩
  · intro x13
    refine RefL.pure rfl rfl (RanP.assign rfl) ?_
    refine RefL.nil ?_
    refine RefE.next ?_
    refine RefC.ret ?_
    refine RefE.retV rfl ?_
    refine RefV.tmp rfl ?_
    exact RefV.nil rfl

def msg_Machine_data (K : Nat) (a0 : Option Addr) (a1 : Tapi_Frame) : G (Tapi_Event × Bool × Int) :=
  new [.pointer a0] 66 fun x1 =>
  new (Agg.cells a1) 59 fun x2 =>
  new [.int .i64 (0 : Int), .int .i64 (0 : Int), .string (ByteArray.mk #[])] 47 fun x3 =>
  drw <|
  ldI .i64 (x2.add 1) fun x4 =>
  ldP x1 fun x5 =>
  nn x5 fun x6 =>
  ldI .i64 (x6.add 1) fun x7 =>
  if (!((x4 == (0 : Int)) == (x7 != (0 : Int)))) = true then
    ldP x1 fun x8 =>
    bnd (msg_Machine_stop K x8 (120 : Int)) fun x9 =>
    st x3 (.agg (Agg.cells x9.1).toArray) <|
    ldG (α := Tapi_Event) x3 fun r10 =>
    ret (r10, x9.2.1, x9.2.2)
  else
    ldP x1 fun x11 =>
    nn x11 fun x12 =>
    ldI .i64 (x12.add 1) fun x13 =>
    bnd (
      if (x13 == (0 : Int)) = true then
        ldP x1 fun x21 =>
        ldI .i64 (x2.add 1) fun x22 =>
        nn x21 fun x23 =>
        st (x23.add 1) (.int .i64 x22) <|
        ldP x1 fun x24 =>
        nn x24 fun x25 =>
        ldP (x25.add 3) fun x26 =>
        bnd (utf_Checker_Reset K x26) fun x27 =>
        ret ()
      else
        ret ()) fun (s28 : Unit) =>
    drw <|
    ldP x1 fun x29 =>
    nn x29 fun x30 =>
    ldSl (x30.add 2) fun x31 =>
    ldS (x2.add 7) fun x32 =>
    ldP x1 fun x33 =>
    nn x33 fun x34 =>
    ldI .i64 (x34.add 0) fun x35 =>
    if (decide (x35 < (IntKind.wrap .i64 ((x31.n : Int) + (x32.size : Int))))) = true then
      ldP x1 fun x36 =>
      bnd (msg_Machine_stop K x36 (121 : Int)) fun x37 =>
      st x3 (.agg (Agg.cells x37.1).toArray) <|
      ldG (α := Tapi_Event) x3 fun r38 =>
      ret (r38, x37.2.1, x37.2.2)
    else
      ldP x1 fun x39 =>
      nn x39 fun x40 =>
      ldI .i64 (x40.add 1) fun x41 =>
      bnd (
        if (x41 == (1 : Int)) = true then
          bnd (msg_Machine_data_1 K x1 x2) fun x43 =>
          ret x43
        else
          ret false) fun (x42 : Bool) =>
      if x42 = true then
        ldP x1 fun x44 =>
        bnd (msg_Machine_stop K x44 (122 : Int)) fun x45 =>
        st x3 (.agg (Agg.cells x45.1).toArray) <|
        ldG (α := Tapi_Event) x3 fun r46 =>
        ret (r46, x45.2.1, x45.2.2)
      else
        drw <|
        wld fun w48 =>
        ldP x1 fun x47 =>
        ldP x1 fun x49 =>
        nn x49 fun x50 =>
        ldSl (x50.add 2) fun x51 =>
        ldS (x2.add 7) fun x52 =>
        appT 5 [.int .u8 (0 : Int)] x51 x52 fun x53 =>
        agr (like x1 1 w48) <|
        nn x47 fun x54 =>
        st (x54.add 2) (.slice x53.a x53.n x53.c) <|
        ldB (x2.add 0) fun x55 =>
        if (!x55) = true then
          st x3 (.agg (Agg.cells (Tapi_Event.mk (0 : Int) (0 : Int) (ByteArray.mk #[]))).toArray) <|
          ldG (α := Tapi_Event) x3 fun r56 =>
          ret (r56, false, (0 : Int))
        else
          drw <|
          wld fun w58 =>
          ldP x1 fun x57 =>
          nn x57 fun x59 =>
          wld fun w61 =>
          ldI .i64 (x59.add 1) fun x60 =>
          wld fun w63 =>
          ldP x1 fun x62 =>
          nn x62 fun x64 =>
          wld fun w66 =>
          ldSl (x64.add 2) fun x65 =>
          wld fun w68 =>
          strOf x65 fun x67 =>
          new [.int .i64 (0 : Int), .int .i64 (0 : Int), .string (ByteArray.mk #[])] 47 fun x69 =>
          agr (like x1 1 w58) <|
          agr (like (x59.add 1) 1 w61) <|
          agr (like x1 1 w63) <|
          agr (like (x64.add 2) 1 w66) <|
          agr (likeS x65 1 w68) <|
          st x69 (.agg (Agg.cells (Tapi_Event.mk x60 (0 : Int) x67)).toArray) <|
          ldP x1 fun x70 =>
          bnd (msg_Machine_stop K x70 (0 : Int)) fun x71 =>
          ldG (α := Tapi_Event) x69 fun x72 =>
          st x3 (.agg (Agg.cells x72).toArray) <|
          ldG (α := Tapi_Event) x3 fun r73 =>
          ret (r73, true, (0 : Int))
set_option maxRecDepth 100000 in
theorem msg_Machine_data_ref (K : Nat) (a0 : Option Addr) (a1 : Tapi_Frame) : Does Try.prog 69 [.pointer a0, .agg (Agg.cells a1).toArray] (msg_Machine_data K a0 a1) (fun r => .tuple #[.agg (Agg.cells r.1).toArray, .bool r.2.1, .int .i64 r.2.2]) := by
  refine Does.of Try.func69 rfl rfl rfl ?_
  unfold msg_Machine_data
  refine RefC.seq ?_
  refine RefC.region ?_
  refine RefL.hv rfl rfl (Hv.box rfl rfl fun x1 => ?_)
  refine RefL.hv rfl rfl (Hv.box rfl rfl fun x2 => ?_)
  refine RefL.hv rfl rfl (Hv.newZ Try.zeroValue47 rfl fun x3 => ?_)
  refine RefL.pure rfl rfl (RanP.assign rfl) ?_
  refine RefL.pure rfl rfl (RanP.assign rfl) ?_
  refine RefL.nil ?_
  refine RefE.next ?_
  refine RefC.seq ?_
  refine RefC.seq ?_
  refine RefC.draw mixed [0, 1, 3, 0, 8, 24, 56, 120, 255] [.lp 0, .li 1, .lp 2, .li 3, .lp 4, .lp 5, .li 6, .lp 7, .lp 8] (by kernel_rfl) ?_
  refine RefD.pure (at_ rfl) rfl (RanP.fieldAddr fa_59_1 rfl) ?_
  refine RefD.li0 (at_ rfl) rfl (Lt.ldI Try.isAgg3 rfl fun x4 => ?_)
  refine RefD.pure (at_ rfl) rfl (RanP.eql rfl rfl) ?_
  refine RefD.li0 (at_ rfl) rfl (Lt.ldP Try.isAgg66 rfl fun x5 => ?_)
  refine RefD.any (at_ rfl) rfl (Lt.nn rfl fun x6 => ?_)
  refine RefD.pure (at_ rfl) rfl (RanP.fieldAddr fa_97_1 rfl) ?_
  refine RefD.li0 (at_ rfl) rfl (Lt.ldI Try.isAgg3 rfl fun x7 => ?_)
  refine RefD.pure (at_ rfl) rfl (RanP.neq rfl rfl) ?_
  refine RefD.pure (at_ rfl) rfl (RanP.neqB Try.underlying4 rfl rfl) ?_
  refine RefD.nil ?_
  refine RefE.next ?_
  refine RefC.cond rfl ?_ ?_
  · refine RefC.seq ?_
    refine RefC.region ?_
    refine RefL.li rfl rfl (Lt.ldP Try.isAgg66 rfl fun x8 => ?_)
    refine RefL.hv rfl rfl (Hv.call (msg_Machine_stop_ref K x8 (120 : Int)) Try.call66 rfl rfl rfl fun x9 => ?_)
    refine RefL.pure rfl rfl (RanP.extract rfl rfl) ?_
    refine RefL.pure rfl rfl (RanP.extract rfl rfl) ?_
    refine RefL.pure rfl rfl (RanP.extract rfl rfl) ?_
    refine RefL.hv rfl rfl (Hv.st Try.sizeOf47 rfl rfl rfl ?_)
    refine RefL.pure rfl rfl (RanP.assign rfl) ?_
    refine RefL.pure rfl rfl (RanP.assign rfl) ?_
    refine RefL.nil ?_
    refine RefE.next ?_
    refine RefC.ret ?_
    refine RefE.thenRet ?_
    refine RefE.retV rfl ?_
    refine RefV.cellG Try.isAgg47 Try.sizeOf47 rfl fun r10 => ?_
    refine RefV.tmp rfl ?_
    refine RefV.tmp rfl ?_
    exact RefV.nil rfl
  · refine RefC.skip ?_
    refine RefE.next ?_
    refine RefC.seq ?_
    refine RefC.seq ?_
    refine RefC.region ?_
    refine RefL.li rfl rfl (Lt.ldP Try.isAgg66 rfl fun x11 => ?_)
    refine RefL.li rfl rfl (Lt.nn rfl fun x12 => ?_)
    refine RefL.pure rfl rfl (RanP.fieldAddr fa_97_1 rfl) ?_
    refine RefL.li rfl rfl (Lt.ldI Try.isAgg3 rfl fun x13 => ?_)
    refine RefL.pure rfl rfl (RanP.eql rfl rfl) ?_
    refine RefL.nil ?_
    refine RefE.next ?_
    refine RefC.cut (enc := fun (s28 : Unit) => ([(2, .pointer (some x1)), (3, .pointer (some x2)), (4, .pointer (some x3))] : Env)) ?_ ?_
    · refine RefC.cond rfl ?_ ?_
      · refine RefC.seq ?_
        refine RefC.region ?_
        refine RefL.li rfl rfl (Lt.ldP Try.isAgg66 rfl fun x21 => ?_)
        refine RefL.pure rfl rfl (RanP.fieldAddr fa_59_1 rfl) ?_
        refine RefL.li rfl rfl (Lt.ldI Try.isAgg3 rfl fun x22 => ?_)
        refine RefL.li rfl rfl (Lt.nn rfl fun x23 => ?_)
        refine RefL.pure rfl rfl (RanP.fieldAddr fa_97_1 rfl) ?_
        refine RefL.hv rfl rfl (Hv.st Try.sizeOf3 rfl rfl rfl ?_)
        refine RefL.nil ?_
        refine RefE.next ?_
        refine RefC.region ?_
        refine RefL.li rfl rfl (Lt.ldP Try.isAgg66 rfl fun x24 => ?_)
        refine RefL.li rfl rfl (Lt.nn rfl fun x25 => ?_)
        refine RefL.pure rfl rfl (RanP.fieldAddr fa_97_3 rfl) ?_
        refine RefL.li rfl rfl (Lt.ldP Try.isAgg94 rfl fun x26 => ?_)
        refine RefL.hv rfl rfl (Hv.call (utf_Checker_Reset_ref K x26) Try.call89 rfl rfl rfl fun x27 => ?_)
        refine RefL.nil ?_
        exact RefE.fin (s := ()) ⟨rfl, rfl, rfl, trivial⟩
      · refine RefC.skip ?_
        exact RefE.fin (s := ()) ⟨rfl, rfl, rfl, trivial⟩
    · intro s28
      refine RefE.next ?_
      refine RefC.seq ?_
      refine RefC.seq ?_
      refine RefC.draw mixed [0, 1, 3, 7, 15, 0, 32, 96, 255, 0, 512, 1536, 3584, 8191] [.li 0, .lp 1, .lp 2, .li 3, .lp 4, .lp 5, .li 6, .lp 7, .lp 8, .li 9, .lp 10, .lp 11, .li 12, .lp 13] (by kernel_rfl) ?_
      refine RefD.li0 (at_ rfl) rfl (Lt.ldP Try.isAgg66 rfl fun x29 => ?_)
      refine RefD.any (at_ rfl) rfl (Lt.nn rfl fun x30 => ?_)
      refine RefD.pure (at_ rfl) rfl (RanP.fieldAddr fa_97_2 rfl) ?_
      refine RefD.li0 (at_ rfl) rfl (Lt.ldSl Try.isAgg36 rfl fun x31 => ?_)
      refine RefD.pure (at_ rfl) rfl (RanP.lenSl rfl Try.underlying36 rfl) ?_
      refine RefD.pure (at_ rfl) rfl (RanP.fieldAddr fa_59_4 rfl) ?_
      refine RefD.li0 (at_ rfl) rfl (Lt.ldS Try.isAgg9 rfl fun x32 => ?_)
      refine RefD.pure (at_ rfl) rfl (RanP.lenS rfl Try.underlying9 rfl) ?_
      refine RefD.pure (at_ rfl) rfl (RanP.add rfl rfl) ?_
      refine RefD.li0 (at_ rfl) rfl (Lt.ldP Try.isAgg66 rfl fun x33 => ?_)
      refine RefD.any (at_ rfl) rfl (Lt.nn rfl fun x34 => ?_)
      refine RefD.pure (at_ rfl) rfl (RanP.fieldAddr fa_97_0 rfl) ?_
      refine RefD.li0 (at_ rfl) rfl (Lt.ldI Try.isAgg3 rfl fun x35 => ?_)
      refine RefD.pure (at_ rfl) rfl (RanP.gtr rfl rfl) ?_
      refine RefD.nil ?_
      refine RefE.next ?_
      refine RefC.cond rfl ?_ ?_
      · refine RefC.seq ?_
        refine RefC.region ?_
        refine RefL.li rfl rfl (Lt.ldP Try.isAgg66 rfl fun x36 => ?_)
        refine RefL.hv rfl rfl (Hv.call (msg_Machine_stop_ref K x36 (121 : Int)) Try.call66 rfl rfl rfl fun x37 => ?_)
        refine RefL.pure rfl rfl (RanP.extract rfl rfl) ?_
        refine RefL.pure rfl rfl (RanP.extract rfl rfl) ?_
        refine RefL.pure rfl rfl (RanP.extract rfl rfl) ?_
        refine RefL.hv rfl rfl (Hv.st Try.sizeOf47 rfl rfl rfl ?_)
        refine RefL.pure rfl rfl (RanP.assign rfl) ?_
        refine RefL.pure rfl rfl (RanP.assign rfl) ?_
        refine RefL.nil ?_
        refine RefE.next ?_
        refine RefC.ret ?_
        refine RefE.thenRet ?_
        refine RefE.retV rfl ?_
        refine RefV.cellG Try.isAgg47 Try.sizeOf47 rfl fun r38 => ?_
        refine RefV.tmp rfl ?_
        refine RefV.tmp rfl ?_
        exact RefV.nil rfl
      · refine RefC.skip ?_
        refine RefE.next ?_
        refine RefC.seq ?_
        refine RefC.region ?_
        refine RefL.pure rfl rfl (RanP.makeFunc rfl rfl) ?_
        refine RefL.pure rfl rfl (RanP.assign rfl) ?_
        refine RefL.nil ?_
        refine RefE.next ?_
        refine RefC.seq ?_
        refine RefC.seq ?_
        refine RefC.region ?_
        refine RefL.li rfl rfl (Lt.ldP Try.isAgg66 rfl fun x39 => ?_)
        refine RefL.li rfl rfl (Lt.nn rfl fun x40 => ?_)
        refine RefL.pure rfl rfl (RanP.fieldAddr fa_97_1 rfl) ?_
        refine RefL.li rfl rfl (Lt.ldI Try.isAgg3 rfl fun x41 => ?_)
        refine RefL.pure rfl rfl (RanP.eql rfl rfl) ?_
        refine RefL.pure rfl rfl (RanP.move rfl) ?_
        refine RefL.cut (enc := fun (x42 : Bool) => ([(66, .bool x42), (2, .pointer (some x1)), (3, .pointer (some x2)), (4, .pointer (some x3))] : Env)) 3 ?_ ?_
        · refine RefL.ite (s := 63) rfl ?_ ?_
          · refine RefL.pure rfl rfl (RanP.move rfl) ?_
            refine RefL.hv rfl rfl (Hv.call (msg_Machine_data_1_ref K x1 x2) Try.call90 rfl rfl rfl fun x43 => ?_)
            refine RefL.pure rfl rfl (RanP.pickT rfl rfl) ?_
            refine RefL.nil ?_
            exact RefE.fin (s := x43) ⟨rfl, rfl, rfl, rfl, trivial⟩
          · refine RefL.skip rfl rfl ?_
            refine RefL.skip rfl rfl ?_
            refine RefL.pure rfl rfl (RanP.pickF rfl rfl) ?_
            refine RefL.nil ?_
            exact RefE.fin (s := false) ⟨rfl, rfl, rfl, rfl, trivial⟩
        · intro x42
          refine RefL.nil ?_
          refine RefE.next ?_
          refine RefC.cond rfl ?_ ?_
          · refine RefC.seq ?_
            refine RefC.region ?_
            refine RefL.li rfl rfl (Lt.ldP Try.isAgg66 rfl fun x44 => ?_)
            refine RefL.hv rfl rfl (Hv.call (msg_Machine_stop_ref K x44 (122 : Int)) Try.call66 rfl rfl rfl fun x45 => ?_)
            refine RefL.pure rfl rfl (RanP.extract rfl rfl) ?_
            refine RefL.pure rfl rfl (RanP.extract rfl rfl) ?_
            refine RefL.pure rfl rfl (RanP.extract rfl rfl) ?_
            refine RefL.hv rfl rfl (Hv.st Try.sizeOf47 rfl rfl rfl ?_)
            refine RefL.pure rfl rfl (RanP.assign rfl) ?_
            refine RefL.pure rfl rfl (RanP.assign rfl) ?_
            refine RefL.nil ?_
            refine RefE.next ?_
            refine RefC.ret ?_
            refine RefE.thenRet ?_
            refine RefE.retV rfl ?_
            refine RefV.cellG Try.isAgg47 Try.sizeOf47 rfl fun r46 => ?_
            refine RefV.tmp rfl ?_
            refine RefV.tmp rfl ?_
            exact RefV.nil rfl
          · refine RefC.skip ?_
            refine RefE.next ?_
            refine RefC.seq ?_
            refine RefC.draw mixed [0, 0, 2, 6, 14, 0, 32, 126, 255, 511, 1023] [.li 0, .li 1, .lp 2, .lp 3, .li 4, .lp 5, .li 6, .hv 7, .re 0, .lp 8, .lp 9, .hv 10] (by kernel_rfl) ?_
            refine RefD.li (at_ rfl) rfl fun w48 => (Lt.ldP Try.isAgg66 rfl fun x47 => ?_)
            refine RefD.li0 (at_ rfl) rfl (Lt.ldP Try.isAgg66 rfl fun x49 => ?_)
            refine RefD.any (at_ rfl) rfl (Lt.nn rfl fun x50 => ?_)
            refine RefD.pure (at_ rfl) rfl (RanP.fieldAddr fa_97_2 rfl) ?_
            refine RefD.li0 (at_ rfl) rfl (Lt.ldSl Try.isAgg36 rfl fun x51 => ?_)
            refine RefD.pure (at_ rfl) rfl (RanP.fieldAddr fa_59_4 rfl) ?_
            refine RefD.li0 (at_ rfl) rfl (Lt.ldS Try.isAgg9 rfl fun x52 => ?_)
            refine RefD.hv (at_ rfl) rfl (Hv.appT (i := Try.t5) rfl Try.underlying36 Try.underlying9 rfl rfl rfl rfl rfl rfl fun x53 => ?_)
            refine RefD.re rfl ?_
            refine RefD.any (at_ rfl) rfl (Lt.nn rfl fun x54 => ?_)
            refine RefD.pure (at_ rfl) rfl (RanP.fieldAddr fa_97_2 rfl) ?_
            refine RefD.hv (at_ rfl) rfl (Hv.st Try.sizeOf36 rfl rfl rfl ?_)
            refine RefD.nil ?_
            refine RefE.next ?_
            refine RefC.seq ?_
            refine RefC.seq ?_
            refine RefC.region ?_
            refine RefL.pure rfl rfl (RanP.fieldAddr fa_59_0 rfl) ?_
            refine RefL.li rfl rfl (Lt.ldB Try.isAgg4 rfl fun x55 => ?_)
            refine RefL.pure rfl rfl (RanP.not rfl) ?_
            refine RefL.nil ?_
            refine RefE.next ?_
            refine RefC.cond rfl ?_ ?_
            · refine RefC.seq ?_
              refine RefC.region ?_
              refine RefL.pure rfl rfl (RanP.build rfl (v := .agg (Agg.cells (Tapi_Event.mk (0 : Int) (0 : Int) (ByteArray.mk #[]))).toArray) (fun _ => by kernel_rfl)) ?_
              refine RefL.hv rfl rfl (Hv.st Try.sizeOf47 rfl rfl rfl ?_)
              refine RefL.pure rfl rfl (RanP.assign rfl) ?_
              refine RefL.pure rfl rfl (RanP.assign rfl) ?_
              refine RefL.nil ?_
              refine RefE.next ?_
              refine RefC.ret ?_
              refine RefE.thenRet ?_
              refine RefE.retV rfl ?_
              refine RefV.cellG Try.isAgg47 Try.sizeOf47 rfl fun r56 => ?_
              refine RefV.tmp rfl ?_
              refine RefV.tmp rfl ?_
              exact RefV.nil rfl
            · refine RefC.skip ?_
              refine RefE.next ?_
              refine RefC.seq ?_
              refine RefC.draw mixed [0, 1, 3, 7, 0, 16, 48, 112, 240, 511, 0, 2047] [.li 0, .lp 1, .lp 2, .li 3, .li 4, .lp 5, .lp 6, .li 7, .li 8, .lp 9, .hv 10, .re 0, .re 3, .re 4, .re 7, .re 8, .hv 11] (by kernel_rfl) ?_
              refine RefD.li (at_ rfl) rfl fun w58 => (Lt.ldP Try.isAgg66 rfl fun x57 => ?_)
              refine RefD.any (at_ rfl) rfl (Lt.nn rfl fun x59 => ?_)
              refine RefD.pure (at_ rfl) rfl (RanP.fieldAddr fa_97_1 rfl) ?_
              refine RefD.li (at_ rfl) rfl fun w61 => (Lt.ldI Try.isAgg3 rfl fun x60 => ?_)
              refine RefD.li (at_ rfl) rfl fun w63 => (Lt.ldP Try.isAgg66 rfl fun x62 => ?_)
              refine RefD.any (at_ rfl) rfl (Lt.nn rfl fun x64 => ?_)
              refine RefD.pure (at_ rfl) rfl (RanP.fieldAddr fa_97_2 rfl) ?_
              refine RefD.li (at_ rfl) rfl fun w66 => (Lt.ldSl Try.isAgg36 rfl fun x65 => ?_)
              refine RefD.li (at_ rfl) rfl fun w68 => (Lt.strOf Try.underlying36 Try.underlying9 Try.underlying5 rfl fun x67 => ?_)
              refine RefD.pure (at_ rfl) rfl (RanP.build rfl (v := .agg (Agg.cells (Tapi_Event.mk x60 (0 : Int) x67)).toArray) (fun _ => by kernel_rfl)) ?_
              refine RefD.hv (at_ rfl) rfl (Hv.newZ Try.zeroValue47 rfl fun x69 => ?_)
              refine RefD.re rfl ?_
              refine RefD.re rfl ?_
              refine RefD.re rfl ?_
              refine RefD.re rfl ?_
              refine RefD.re rfl ?_
              refine RefD.hv (at_ rfl) rfl (Hv.st Try.sizeOf47 rfl rfl rfl ?_)
              refine RefD.nil ?_
              refine RefE.next ?_
              refine RefC.seq ?_
              refine RefC.region ?_
              refine RefL.li rfl rfl (Lt.ldP Try.isAgg66 rfl fun x70 => ?_)
              refine RefL.hv rfl rfl (Hv.call (msg_Machine_stop_ref K x70 (0 : Int)) Try.call66 rfl rfl rfl fun x71 => ?_)
              refine RefL.nil ?_
              refine RefE.next ?_
              refine RefC.seq ?_
              refine RefC.region ?_
              refine RefL.li rfl rfl (Lt.ldG (τ := Tapi_Event) Try.isAgg47 Try.sizeOf47 rfl fun x72 => ?_)
              refine RefL.hv rfl rfl (Hv.st Try.sizeOf47 rfl rfl rfl ?_)
              refine RefL.pure rfl rfl (RanP.assign rfl) ?_
              refine RefL.pure rfl rfl (RanP.assign rfl) ?_
              refine RefL.nil ?_
              refine RefE.next ?_
              refine RefC.ret ?_
              refine RefE.retV rfl ?_
              refine RefV.cellG Try.isAgg47 Try.sizeOf47 rfl fun r73 => ?_
              refine RefV.tmp rfl ?_
              refine RefV.tmp rfl ?_
              exact RefV.nil rfl

def msg_Machine_Take (K : Nat) (a0 : Option Addr) (a1 : Tapi_Frame) : G (Tapi_Event × Bool × Int) :=
  new (Agg.cells a1) 59 fun x1 =>
  new [.int .i64 (0 : Int), .int .i64 (0 : Int), .string (ByteArray.mk #[])] 47 fun x2 =>
  nn a0 fun x3 =>
  ldI .i64 (x3.add 5) fun x4 =>
  lt (x4 != (0 : Int)) fun x5 =>
  if x5 = true then
    drw <|
    nn a0 fun x6 =>
    wld fun w8 =>
    ldI .i64 (x6.add 5) fun x7 =>
    st x2 (.agg (Agg.cells (Tapi_Event.mk (0 : Int) (0 : Int) (ByteArray.mk #[]))).toArray) <|
    agr (like (x6.add 5) 1 w8) <|
    ldG (α := Tapi_Event) x2 fun r9 =>
    ret (r9, false, x7)
  else
    nn a0 fun x10 =>
    ldB (x10.add 4) fun x11 =>
    if x11 = true then
      st x2 (.agg (Agg.cells (Tapi_Event.mk (0 : Int) (0 : Int) (ByteArray.mk #[]))).toArray) <|
      ldG (α := Tapi_Event) x2 fun r12 =>
      ret (r12, false, (0 : Int))
    else
      ldG (α := Tapi_Frame) x1 fun x13 =>
      bnd (frame_Check K x13) fun x14 =>
      lt (x14 == (91 : Int)) fun x15 =>
      if x15 = true then
        bnd (msg_Machine_stop K a0 (120 : Int)) fun x16 =>
        st x2 (.agg (Agg.cells x16.1).toArray) <|
        ldG (α := Tapi_Event) x2 fun r17 =>
        ret (r17, x16.2.1, x16.2.2)
      else
        ldI .i64 (x1.add 1) fun x18 =>
        lt (x18 == (8 : Int)) fun x19 =>
        if x19 = true then
          ldG (α := Tapi_Frame) x1 fun x20 =>
          bnd (msg_Machine_end K a0 x20) fun x21 =>
          st x2 (.agg (Agg.cells x21.1).toArray) <|
          ldG (α := Tapi_Event) x2 fun r22 =>
          ret (r22, x21.2.1, x21.2.2)
        else
          ldI .i64 (x1.add 1) fun x23 =>
          bnd (frame_Control K x23) fun x24 =>
          if x24 = true then
            ldI .i64 (x1.add 1) fun x25 =>
            ldS (x1.add 7) fun x26 =>
            st x2 (.agg (Agg.cells (Tapi_Event.mk x25 (0 : Int) x26)).toArray) <|
            ldG (α := Tapi_Event) x2 fun r27 =>
            ret (r27, true, (0 : Int))
          else
            ldG (α := Tapi_Frame) x1 fun x28 =>
            bnd (msg_Machine_data K a0 x28) fun x29 =>
            st x2 (.agg (Agg.cells x29.1).toArray) <|
            ldG (α := Tapi_Event) x2 fun r30 =>
            ret (r30, x29.2.1, x29.2.2)
set_option maxRecDepth 100000 in
theorem msg_Machine_Take_ref (K : Nat) (a0 : Option Addr) (a1 : Tapi_Frame) : Does Try.prog 49 [.pointer a0, .agg (Agg.cells a1).toArray] (msg_Machine_Take K a0 a1) (fun r => .tuple #[.agg (Agg.cells r.1).toArray, .bool r.2.1, .int .i64 r.2.2]) := by
  refine Does.of Try.func49 rfl rfl rfl ?_
  unfold msg_Machine_Take
  refine RefC.seq ?_
  refine RefC.region ?_
  refine RefL.hv rfl rfl (Hv.box rfl rfl fun x1 => ?_)
  refine RefL.hv rfl rfl (Hv.newZ Try.zeroValue47 rfl fun x2 => ?_)
  refine RefL.pure rfl rfl (RanP.assign rfl) ?_
  refine RefL.pure rfl rfl (RanP.assign rfl) ?_
  refine RefL.nil ?_
  refine RefE.next ?_
  refine RefC.seq ?_
  refine RefC.block ?_
  refine RefC.seq ?_
  refine RefC.region ?_
  refine RefL.pure rfl rfl (RanP.move rfl) ?_
  refine RefL.li rfl rfl (Lt.nn rfl fun x3 => ?_)
  refine RefL.pure rfl rfl (RanP.fieldAddr fa_97_5 rfl) ?_
  refine RefL.li rfl rfl (Lt.ldI Try.isAgg28 rfl fun x4 => ?_)
  refine RefL.pure rfl rfl (RanP.neq rfl rfl) ?_
  refine RefL.pure rfl rfl (RanP.assign rfl) ?_
  refine RefL.lt 7 (fun y => .bool y) rfl fun x5 => ?_
  refine RefL.nil ?_
  refine RefE.next ?_
  refine RefC.cond rfl ?_ ?_
  · refine RefC.seq ?_
    refine RefC.draw mixed [0, 0, 2, 6, 14, 1, 33, 127] [.lp 0, .lp 1, .lp 2, .lp 3, .li 4, .hv 5, .re 4, .lp 6, .lp 7] (by kernel_rfl) ?_
    refine RefD.pure (at_ rfl) rfl (RanP.build rfl (v := .agg (Agg.cells (Tapi_Event.mk (0 : Int) (0 : Int) (ByteArray.mk #[]))).toArray) (fun _ => by kernel_rfl)) ?_
    refine RefD.pure (at_ rfl) rfl (RanP.move rfl) ?_
    refine RefD.any (at_ rfl) rfl (Lt.nn rfl fun x6 => ?_)
    refine RefD.pure (at_ rfl) rfl (RanP.fieldAddr fa_97_5 rfl) ?_
    refine RefD.li (at_ rfl) rfl fun w8 => (Lt.ldI Try.isAgg28 rfl fun x7 => ?_)
    refine RefD.hv (at_ rfl) rfl (Hv.st Try.sizeOf47 rfl rfl rfl ?_)
    refine RefD.re rfl ?_
    refine RefD.pure (at_ rfl) rfl (RanP.assign rfl) ?_
    refine RefD.pure (at_ rfl) rfl (RanP.assign rfl) ?_
    refine RefD.nil ?_
    refine RefE.next ?_
    refine RefC.ret ?_
    refine RefE.blockRet ?_
    refine RefE.thenRet ?_
    refine RefE.retV rfl ?_
    refine RefV.cellG Try.isAgg47 Try.sizeOf47 rfl fun r9 => ?_
    refine RefV.tmp rfl ?_
    refine RefV.tmp rfl ?_
    exact RefV.nil rfl
  · refine RefC.seq ?_
    refine RefC.region ?_
    refine RefL.pure rfl rfl (RanP.move rfl) ?_
    refine RefL.li rfl rfl (Lt.nn rfl fun x10 => ?_)
    refine RefL.pure rfl rfl (RanP.fieldAddr fa_97_4 rfl) ?_
    refine RefL.li rfl rfl (Lt.ldB Try.isAgg4 rfl fun x11 => ?_)
    refine RefL.pure rfl rfl (RanP.assign rfl) ?_
    refine RefL.nil ?_
    refine RefE.next ?_
    refine RefC.cond rfl ?_ ?_
    · refine RefC.seq ?_
      refine RefC.region ?_
      refine RefL.pure rfl rfl (RanP.build rfl (v := .agg (Agg.cells (Tapi_Event.mk (0 : Int) (0 : Int) (ByteArray.mk #[]))).toArray) (fun _ => by kernel_rfl)) ?_
      refine RefL.hv rfl rfl (Hv.st Try.sizeOf47 rfl rfl rfl ?_)
      refine RefL.pure rfl rfl (RanP.assign rfl) ?_
      refine RefL.pure rfl rfl (RanP.assign rfl) ?_
      refine RefL.nil ?_
      refine RefE.next ?_
      refine RefC.ret ?_
      refine RefE.blockRet ?_
      refine RefE.thenRet ?_
      refine RefE.retV rfl ?_
      refine RefV.cellG Try.isAgg47 Try.sizeOf47 rfl fun r12 => ?_
      refine RefV.tmp rfl ?_
      refine RefV.tmp rfl ?_
      exact RefV.nil rfl
    · refine RefC.seq ?_
      refine RefC.region ?_
      refine RefL.li rfl rfl (Lt.ldG (τ := Tapi_Frame) Try.isAgg59 Try.sizeOf59 rfl fun x13 => ?_)
      refine RefL.hv rfl rfl (Hv.call (frame_Check_ref K x13) Try.call65 rfl rfl rfl fun x14 => ?_)
      refine RefL.pure rfl rfl (RanP.eql rfl rfl) ?_
      refine RefL.pure rfl rfl (RanP.assign rfl) ?_
      refine RefL.lt 24 (fun y => .bool y) rfl fun x15 => ?_
      refine RefL.nil ?_
      refine RefE.next ?_
      refine RefC.cond rfl ?_ ?_
      · refine RefC.seq ?_
        refine RefC.region ?_
        refine RefL.pure rfl rfl (RanP.move rfl) ?_
        refine RefL.hv rfl rfl (Hv.call (msg_Machine_stop_ref K a0 (120 : Int)) Try.call66 rfl rfl rfl fun x16 => ?_)
        refine RefL.pure rfl rfl (RanP.extract rfl rfl) ?_
        refine RefL.pure rfl rfl (RanP.extract rfl rfl) ?_
        refine RefL.pure rfl rfl (RanP.extract rfl rfl) ?_
        refine RefL.hv rfl rfl (Hv.st Try.sizeOf47 rfl rfl rfl ?_)
        refine RefL.pure rfl rfl (RanP.assign rfl) ?_
        refine RefL.pure rfl rfl (RanP.assign rfl) ?_
        refine RefL.nil ?_
        refine RefE.next ?_
        refine RefC.ret ?_
        refine RefE.blockRet ?_
        refine RefE.thenRet ?_
        refine RefE.retV rfl ?_
        refine RefV.cellG Try.isAgg47 Try.sizeOf47 rfl fun r17 => ?_
        refine RefV.tmp rfl ?_
        refine RefV.tmp rfl ?_
        exact RefV.nil rfl
      · refine RefC.seq ?_
        refine RefC.region ?_
        refine RefL.pure rfl rfl (RanP.fieldAddr fa_59_1 rfl) ?_
        refine RefL.li rfl rfl (Lt.ldI Try.isAgg3 rfl fun x18 => ?_)
        refine RefL.pure rfl rfl (RanP.eql rfl rfl) ?_
        refine RefL.pure rfl rfl (RanP.assign rfl) ?_
        refine RefL.lt 33 (fun y => .bool y) rfl fun x19 => ?_
        refine RefL.nil ?_
        refine RefE.next ?_
        refine RefC.cond rfl ?_ ?_
        · refine RefC.seq ?_
          refine RefC.region ?_
          refine RefL.pure rfl rfl (RanP.move rfl) ?_
          refine RefL.li rfl rfl (Lt.ldG (τ := Tapi_Frame) Try.isAgg59 Try.sizeOf59 rfl fun x20 => ?_)
          refine RefL.hv rfl rfl (Hv.call (msg_Machine_end_ref K a0 x20) Try.call67 rfl rfl rfl fun x21 => ?_)
          refine RefL.pure rfl rfl (RanP.extract rfl rfl) ?_
          refine RefL.pure rfl rfl (RanP.extract rfl rfl) ?_
          refine RefL.pure rfl rfl (RanP.extract rfl rfl) ?_
          refine RefL.hv rfl rfl (Hv.st Try.sizeOf47 rfl rfl rfl ?_)
          refine RefL.pure rfl rfl (RanP.assign rfl) ?_
          refine RefL.pure rfl rfl (RanP.assign rfl) ?_
          refine RefL.nil ?_
          refine RefE.next ?_
          refine RefC.ret ?_
          refine RefE.blockRet ?_
          refine RefE.thenRet ?_
          refine RefE.retV rfl ?_
          refine RefV.cellG Try.isAgg47 Try.sizeOf47 rfl fun r22 => ?_
          refine RefV.tmp rfl ?_
          refine RefV.tmp rfl ?_
          exact RefV.nil rfl
        · refine RefC.seq ?_
          refine RefC.region ?_
          refine RefL.pure rfl rfl (RanP.fieldAddr fa_59_1 rfl) ?_
          refine RefL.li rfl rfl (Lt.ldI Try.isAgg3 rfl fun x23 => ?_)
          refine RefL.hv rfl rfl (Hv.call (frame_Control_ref K x23) Try.call68 rfl rfl rfl fun x24 => ?_)
          refine RefL.pure rfl rfl (RanP.assign rfl) ?_
          refine RefL.nil ?_
          refine RefE.next ?_
          refine RefC.cond rfl ?_ ?_
          · refine RefC.seq ?_
            refine RefC.region ?_
            refine RefL.pure rfl rfl (RanP.fieldAddr fa_59_1 rfl) ?_
            refine RefL.li rfl rfl (Lt.ldI Try.isAgg3 rfl fun x25 => ?_)
            refine RefL.pure rfl rfl (RanP.fieldAddr fa_59_4 rfl) ?_
            refine RefL.li rfl rfl (Lt.ldS Try.isAgg9 rfl fun x26 => ?_)
            refine RefL.pure rfl rfl (RanP.build rfl (v := .agg (Agg.cells (Tapi_Event.mk x25 (0 : Int) x26)).toArray) (fun _ => by kernel_rfl)) ?_
            refine RefL.hv rfl rfl (Hv.st Try.sizeOf47 rfl rfl rfl ?_)
            refine RefL.pure rfl rfl (RanP.assign rfl) ?_
            refine RefL.pure rfl rfl (RanP.assign rfl) ?_
            refine RefL.nil ?_
            refine RefE.next ?_
            refine RefC.ret ?_
            refine RefE.blockRet ?_
            refine RefE.thenRet ?_
            refine RefE.retV rfl ?_
            refine RefV.cellG Try.isAgg47 Try.sizeOf47 rfl fun r27 => ?_
            refine RefV.tmp rfl ?_
            refine RefV.tmp rfl ?_
            exact RefV.nil rfl
          · refine RefC.skip ?_
            refine RefE.blockNormal ?_
            refine RefE.next ?_
            refine RefC.seq ?_
            refine RefC.region ?_
            refine RefL.pure rfl rfl (RanP.move rfl) ?_
            refine RefL.li rfl rfl (Lt.ldG (τ := Tapi_Frame) Try.isAgg59 Try.sizeOf59 rfl fun x28 => ?_)
            refine RefL.hv rfl rfl (Hv.call (msg_Machine_data_ref K a0 x28) Try.call69 rfl rfl rfl fun x29 => ?_)
            refine RefL.pure rfl rfl (RanP.extract rfl rfl) ?_
            refine RefL.pure rfl rfl (RanP.extract rfl rfl) ?_
            refine RefL.pure rfl rfl (RanP.extract rfl rfl) ?_
            refine RefL.hv rfl rfl (Hv.st Try.sizeOf47 rfl rfl rfl ?_)
            refine RefL.pure rfl rfl (RanP.assign rfl) ?_
            refine RefL.pure rfl rfl (RanP.assign rfl) ?_
            refine RefL.nil ?_
            refine RefE.next ?_
            refine RefC.ret ?_
            refine RefE.retV rfl ?_
            refine RefV.cellG Try.isAgg47 Try.sizeOf47 rfl fun r30 => ?_
            refine RefV.tmp rfl ?_
            refine RefV.tmp rfl ?_
            exact RefV.nil rfl

end Go.Proofs.Ytjdnjlnfcbaokaa

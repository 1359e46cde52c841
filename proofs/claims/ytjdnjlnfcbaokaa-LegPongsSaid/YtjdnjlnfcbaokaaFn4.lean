/-
  Go functions as programs over the world, and that the model's code does what they say. Printed by gen.py (own work).
-/
import Derived.Test.YtjdnjlnfcbaokaaFn3
set_option linter.unusedVariables false
set_option linter.unusedSimpArgs false
namespace Go.Proofs.Ytjdnjlnfcbaokaa
open Go Go.Lg

def slices_Index_Errno_l0 (K : Nat) (a0 : Sl) (a1 : Int) (again : Int → G (Unit ⊕ Int)) (s10 : Int) : G (Unit ⊕ Int) :=
  if (decide (s10 < (a0.n : Int))) = true then
    ixA a0 s10 1 fun x11 =>
    ldI .i64 x11 fun x12 =>
    if (a1 == x12) = true then
      inr (ret s10)
    else
      again ((IntKind.wrap .i64 (s10 + (1 : Int))))
  else
    ret (.inl ())
def slices_Index_Errno (K : Nat) (a0 : Sl) (a1 : Int) : G (Int) :=
  bnd (
    loopG (slices_Index_Errno_l0 K a0 a1) K ((0 : Int))) (sumK fun (s13 : Unit) =>
  ret (-1 : Int))
set_option maxRecDepth 100000 in
theorem slices_Index_Errno_ref (K : Nat) (a0 : Sl) (a1 : Int) : Does Try.prog 102 [.slice a0.a a0.n a0.c, .int .i64 a1] (slices_Index_Errno K a0 a1) (fun r => .int .i64 r) := by
  refine Does.of Try.func102 rfl rfl rfl ?_
  unfold slices_Index_Errno
  refine RefC.seq ?_
  refine RefC.region ?_
  refine RefL.pure rfl rfl (RanP.assign rfl) ?_
  refine RefL.nil ?_
  refine RefE.next ?_
  refine RefC.seq ?_
  refine RefC.seq ?_
  refine RefC.region ?_
  refine RefL.pure rfl rfl (RanP.move rfl) ?_
  refine RefL.pure rfl rfl (RanP.lenSl rfl Try.underlying125 rfl) ?_
  refine RefL.pure rfl rfl (RanP.move rfl) ?_
  refine RefL.nil ?_
  refine RefE.next ?_
  refine RefC.cutSum (enc := fun (s13 : Unit) => ([] : Env)) (KThen.mono KRet.mono) ?_ ?_
  · refine RefC.block ?_
    refine RefC.loopW (enc := fun (s10 : Int) => ([(8, .int .i64 s10), (0, .slice a0.a a0.n a0.c), (1, .int .i64 a1), (7, .int .i64 (a0.n : Int))] : Env)) ⟨rfl, rfl, rfl, rfl, trivial⟩ ?_ _
    intro again k ih s10
    unfold slices_Index_Errno_l0
    refine RefC.seq ?_
    refine RefC.region ?_
    refine RefL.pure rfl rfl (RanP.lss rfl rfl) ?_
    refine RefL.nil ?_
    refine RefE.next ?_
    refine RefC.seq ?_
    refine RefC.cond rfl ?_ ?_
    · refine RefC.skip ?_
      refine RefE.next ?_
      refine RefC.seq ?_
      refine RefC.block ?_
      refine RefC.seq ?_
      refine RefC.region ?_
      refine RefL.pure rfl rfl (RanP.move rfl) ?_
      refine RefL.pure rfl rfl (RanP.assign rfl) ?_
      refine RefL.nil ?_
      refine RefE.next ?_
      refine RefC.seq ?_
      refine RefC.region ?_
      refine RefL.pure rfl rfl (RanP.move rfl) ?_
      refine RefL.pure rfl rfl (RanP.move rfl) ?_
      refine RefL.pure rfl rfl (RanP.move rfl) ?_
      refine RefL.li rfl rfl (Lt.ixA Try.underlying125 Try.sizeOf28 rfl rfl fun x11 => ?_)
      refine RefL.li rfl rfl (Lt.ldI Try.isAgg28 rfl fun x12 => ?_)
      refine RefL.pure rfl rfl (RanP.eql rfl rfl) ?_
      refine RefL.nil ?_
      refine RefE.next ?_
      refine RefC.cond rfl ?_ ?_
      · refine RefC.seq ?_
        refine RefC.region ?_
        refine RefL.pure rfl rfl (RanP.move rfl) ?_
        refine RefL.pure rfl rfl (RanP.assign rfl) ?_
        refine RefL.nil ?_
        refine RefE.next ?_
        refine RefC.ret ?_
        refine RefE.blockRet ?_
        refine RefE.thenRet ?_
        refine RefE.roundRet ?_
        refine RefE.blockRet ?_
        refine RefE.finR ?_
        refine RefE.thenRet ?_
        refine RefE.retV rfl ?_
        refine RefV.tmp rfl ?_
        exact RefV.nil rfl
      · refine RefC.skip ?_
        refine RefE.blockNormal ?_
        refine RefE.next ?_
        refine RefC.region ?_
        refine RefL.pure rfl rfl (RanP.add rfl rfl) ?_
        refine RefL.pure rfl rfl (RanP.move rfl) ?_
        refine RefL.nil ?_
        exact RefE.again (ih ((IntKind.wrap .i64 (s10 + (1 : Int))))) ⟨rfl, rfl, rfl, rfl, trivial⟩
    · refine RefC.exit ?_
      refine RefE.thenExit ?_
      refine RefE.roundExit ?_
      refine RefE.blockExit ?_
      exact RefE.finL (s := ()) trivial
  · intro s13
    refine RefE.next ?_
    refine RefC.seq ?_
    refine RefC.region ?_
    refine RefL.pure rfl rfl (RanP.assign rfl) ?_
    refine RefL.nil ?_
    refine RefE.next ?_
    refine RefC.ret ?_
    refine RefE.retV rfl ?_
    refine RefV.tmp rfl ?_
    exact RefV.nil rfl

def slices_Contains_Errno (K : Nat) (a0 : Sl) (a1 : Int) : G (Bool) :=
  bnd (slices_Index_Errno K a0 a1) fun x1 =>
  lt (decide ((0 : Int) ≤ x1)) fun x2 =>
  ret x2
set_option maxRecDepth 100000 in
theorem slices_Contains_Errno_ref (K : Nat) (a0 : Sl) (a1 : Int) : Does Try.prog 94 [.slice a0.a a0.n a0.c, .int .i64 a1] (slices_Contains_Errno K a0 a1) (fun r => .bool r) := by
  refine Does.of Try.func94 rfl rfl rfl ?_
  unfold slices_Contains_Errno
  refine RefC.seq ?_
  refine RefC.region ?_
  refine RefL.pure rfl rfl (RanP.assign rfl) ?_
  refine RefL.nil ?_
  refine RefE.next ?_
  refine RefC.seq ?_
  refine RefC.region ?_
  refine RefL.pure rfl rfl (RanP.move rfl) ?_
  refine RefL.pure rfl rfl (RanP.move rfl) ?_
  refine RefL.hv rfl rfl (Hv.call (slices_Index_Errno_ref K a0 a1) Try.call102 rfl rfl rfl fun x1 => ?_)
  refine RefL.pure rfl rfl (RanP.geq rfl rfl) ?_
  refine RefL.pure rfl rfl (RanP.assign rfl) ?_
  refine RefL.lt 4 (fun y => .bool y) rfl fun x2 => ?_
  refine RefL.nil ?_
  refine RefE.next ?_
  refine RefC.ret ?_
  refine RefE.retV rfl ?_
  refine RefV.tmp rfl ?_
  exact RefV.nil rfl

def close_one_api_Errno_ (K : Nat) (a0 : Int) (a1 : Sl) : G (Bool) :=
  bnd (slices_Contains_Errno K a1 a0) fun x1 =>
  ret x1
set_option maxRecDepth 100000 in
theorem close_one_api_Errno__ref (K : Nat) (a0 : Int) (a1 : Sl) : Does Try.prog 73 [.int .i64 a0, .slice a1.a a1.n a1.c] (close_one_api_Errno_ K a0 a1) (fun r => .bool r) := by
  refine Does.of Try.func73 rfl rfl rfl ?_
  unfold close_one_api_Errno_
  refine RefC.seq ?_
  refine RefC.region ?_
  refine RefL.pure rfl rfl (RanP.assign rfl) ?_
  refine RefL.nil ?_
  refine RefE.next ?_
  refine RefC.seq ?_
  refine RefC.region ?_
  refine RefL.pure rfl rfl (RanP.move rfl) ?_
  refine RefL.pure rfl rfl (RanP.move rfl) ?_
  refine RefL.hv rfl rfl (Hv.call (slices_Contains_Errno_ref K a1 a0) Try.call94 rfl rfl rfl fun x1 => ?_)
  refine RefL.pure rfl rfl (RanP.assign rfl) ?_
  refine RefL.nil ?_
  refine RefE.next ?_
  refine RefC.ret ?_
  refine RefE.retV rfl ?_
  refine RefV.tmp rfl ?_
  exact RefV.nil rfl

def close_Code_1 (K : Nat) (a0 : Sl) (a1 : Addr) : G (Bool) :=
  ldI .i64 a1 fun x1 =>
  bnd (close_one_api_Errno_ K x1 a0) fun x2 =>
  ret x2
set_option maxRecDepth 100000 in
theorem close_Code_1_ref (K : Nat) (a0 : Sl) (a1 : Addr) : Does Try.prog 72 [.slice a0.a a0.n a0.c, .pointer (some a1)] (close_Code_1 K a0 a1) (fun r => .bool r) := by
  refine Does.of Try.func72 rfl rfl rfl ?_
  unfold close_Code_1
  refine RefC.seq ?_
  refine RefC.region ?_
  refine RefL.pure rfl rfl (RanP.assign rfl) ?_
  refine RefL.nil ?_
  refine RefE.next ?_
  refine RefC.seq ?_
  refine RefC.region ?_
  refine RefL.li rfl rfl (Lt.ldI Try.isAgg28 rfl fun x1 => ?_)
  refine RefL.pure rfl rfl (RanP.move rfl) ?_
  refine RefL.hv rfl rfl (Hv.call (close_one_api_Errno__ref K x1 a0) Try.call73 rfl rfl rfl fun x2 => ?_)
  refine RefL.pure rfl rfl (RanP.assign rfl) ?_
  refine RefL.nil ?_
  refine RefE.next ?_
  refine RefC.ret ?_
  refine RefE.retV rfl ?_
  refine RefV.tmp rfl ?_
  exact RefV.nil rfl

def close_Code (K : Nat) (a0 : Int) : G (Int) :=
  new [.int .i64 a0] 28 fun x1 =>
  new [.int .i64 (0 : Int)] 28 fun x2 =>
  bnd (close_Code_1 K (Sl.mk (some x2) 1 1) x1) fun x3 =>
  if x3 = true then
    ret (1000 : Int)
  else
    new [.int .i64 (91 : Int), .int .i64 (100 : Int), .int .i64 (110 : Int), .int .i64 (120 : Int)] 28 fun x4 =>
    bnd (close_Code_1 K (Sl.mk (some x4) 4 4) x1) fun x5 =>
    if x5 = true then
      ret (1002 : Int)
    else
      new [.int .i64 (111 : Int), .int .i64 (122 : Int)] 28 fun x6 =>
      bnd (close_Code_1 K (Sl.mk (some x6) 2 2) x1) fun x7 =>
      if x7 = true then
        ret (1007 : Int)
      else
        new [.int .i64 (92 : Int), .int .i64 (121 : Int)] 28 fun x8 =>
        bnd (close_Code_1 K (Sl.mk (some x8) 2 2) x1) fun x9 =>
        if x9 = true then
          ret (1009 : Int)
        else
          ret (1011 : Int)
set_option maxRecDepth 100000 in
theorem close_Code_ref (K : Nat) (a0 : Int) : Does Try.prog 52 [.int .i64 a0] (close_Code K a0) (fun r => .int .i64 r) := by
  refine Does.of Try.func52 rfl rfl rfl ?_
  unfold close_Code
  refine RefC.seq ?_
  refine RefC.region ?_
  refine RefL.hv rfl rfl (Hv.box rfl rfl fun x1 => ?_)
  refine RefL.pure rfl rfl (RanP.assign rfl) ?_
  refine RefL.nil ?_
  refine RefE.next ?_
  refine RefC.seq ?_
  refine RefC.region ?_
  refine RefL.pure rfl rfl (RanP.makeFunc rfl rfl) ?_
  refine RefL.pure rfl rfl (RanP.assign rfl) ?_
  refine RefL.nil ?_
  refine RefE.next ?_
  refine RefC.seq ?_
  refine RefC.block ?_
  refine RefC.seq ?_
  refine RefC.region ?_
  refine RefL.pure rfl rfl (RanP.move rfl) ?_
  refine RefL.hv rfl rfl (Hv.buildSlice rfl (cs := [.int .i64 (0 : Int)]) (e := 28) (fun _ => by kernel_rfl) fun x2 => ?_)
  refine RefL.hv rfl rfl (Hv.call (close_Code_1_ref K (Sl.mk (some x2) 1 1) x1) Try.call72 rfl rfl rfl fun x3 => ?_)
  refine RefL.pure rfl rfl (RanP.assign rfl) ?_
  refine RefL.nil ?_
  refine RefE.next ?_
  refine RefC.cond rfl ?_ ?_
  · refine RefC.seq ?_
    refine RefC.region ?_
    refine RefL.pure rfl rfl (RanP.assign rfl) ?_
    refine RefL.nil ?_
    refine RefE.next ?_
    refine RefC.ret ?_
    refine RefE.blockRet ?_
    refine RefE.thenRet ?_
    refine RefE.retV rfl ?_
    refine RefV.tmp rfl ?_
    exact RefV.nil rfl
  · refine RefC.seq ?_
    refine RefC.region ?_
    refine RefL.pure rfl rfl (RanP.move rfl) ?_
    refine RefL.hv rfl rfl (Hv.buildSlice rfl (cs := [.int .i64 (91 : Int), .int .i64 (100 : Int), .int .i64 (110 : Int), .int .i64 (120 : Int)]) (e := 28) (fun _ => by kernel_rfl) fun x4 => ?_)
    refine RefL.hv rfl rfl (Hv.call (close_Code_1_ref K (Sl.mk (some x4) 4 4) x1) Try.call72 rfl rfl rfl fun x5 => ?_)
    refine RefL.pure rfl rfl (RanP.assign rfl) ?_
    refine RefL.nil ?_
    refine RefE.next ?_
    refine RefC.cond rfl ?_ ?_
    · refine RefC.seq ?_
      refine RefC.region ?_
      refine RefL.pure rfl rfl (RanP.assign rfl) ?_
      refine RefL.nil ?_
      refine RefE.next ?_
      refine RefC.ret ?_
      refine RefE.blockRet ?_
      refine RefE.thenRet ?_
      refine RefE.retV rfl ?_
      refine RefV.tmp rfl ?_
      exact RefV.nil rfl
    · refine RefC.seq ?_
      refine RefC.region ?_
      refine RefL.pure rfl rfl (RanP.move rfl) ?_
      refine RefL.hv rfl rfl (Hv.buildSlice rfl (cs := [.int .i64 (111 : Int), .int .i64 (122 : Int)]) (e := 28) (fun _ => by kernel_rfl) fun x6 => ?_)
      refine RefL.hv rfl rfl (Hv.call (close_Code_1_ref K (Sl.mk (some x6) 2 2) x1) Try.call72 rfl rfl rfl fun x7 => ?_)
      refine RefL.pure rfl rfl (RanP.assign rfl) ?_
      refine RefL.nil ?_
      refine RefE.next ?_
      refine RefC.cond rfl ?_ ?_
      · refine RefC.seq ?_
        refine RefC.region ?_
        refine RefL.pure rfl rfl (RanP.assign rfl) ?_
        refine RefL.nil ?_
        refine RefE.next ?_
        refine RefC.ret ?_
        refine RefE.blockRet ?_
        refine RefE.thenRet ?_
        refine RefE.retV rfl ?_
        refine RefV.tmp rfl ?_
        exact RefV.nil rfl
      · refine RefC.seq ?_
        refine RefC.region ?_
        refine RefL.pure rfl rfl (RanP.move rfl) ?_
        refine RefL.hv rfl rfl (Hv.buildSlice rfl (cs := [.int .i64 (92 : Int), .int .i64 (121 : Int)]) (e := 28) (fun _ => by kernel_rfl) fun x8 => ?_)
        refine RefL.hv rfl rfl (Hv.call (close_Code_1_ref K (Sl.mk (some x8) 2 2) x1) Try.call72 rfl rfl rfl fun x9 => ?_)
        refine RefL.pure rfl rfl (RanP.assign rfl) ?_
        refine RefL.nil ?_
        refine RefE.next ?_
        refine RefC.cond rfl ?_ ?_
        · refine RefC.seq ?_
          refine RefC.region ?_
          refine RefL.pure rfl rfl (RanP.assign rfl) ?_
          refine RefL.nil ?_
          refine RefE.next ?_
          refine RefC.ret ?_
          refine RefE.blockRet ?_
          refine RefE.thenRet ?_
          refine RefE.retV rfl ?_
          refine RefV.tmp rfl ?_
          exact RefV.nil rfl
        · refine RefC.skip ?_
          refine RefE.blockNormal ?_
          refine RefE.next ?_
          refine RefC.seq ?_
          refine RefC.region ?_
          refine RefL.pure rfl rfl (RanP.assign rfl) ?_
          refine RefL.nil ?_
          refine RefE.next ?_
          refine RefC.ret ?_
          refine RefE.retV rfl ?_
          refine RefV.tmp rfl ?_
          exact RefV.nil rfl

def close_Put (K : Nat) (a0 : Int) (a1 : ByteArray) : G (ByteArray × Int) :=
  lt (ByteArray.mk #[]) fun x1 =>
  bnd (
    if (a0 == (0 : Int)) = true then
      ret (sEq a1 (ByteArray.mk #[]))
    else
      ret false) fun (x2 : Bool) =>
  if x2 = true then
    lt (ByteArray.mk #[]) fun x3 =>
    ret (x3, (0 : Int))
  else
    bnd (close_Valid K a0) fun x4 =>
    bnd (
      if (!x4) = true then
        ret true
      else
        ret (decide ((123 : Int) < (a1.size : Int)))) fun (x5 : Bool) =>
    if x5 = true then
      lt (ByteArray.mk #[]) fun x6 =>
      ret (x6, (110 : Int))
    else
      bytesOf 5 a1 fun x7 =>
      bnd (utf_Valid K x7) fun x8 =>
      lt (!x8) fun x9 =>
      if x9 = true then
        lt (ByteArray.mk #[]) fun x10 =>
        ret (x10, (111 : Int))
      else
        new [.int .u8 (IntKind.wrap .u8 (shrI .i64 a0 (8 : Int))), .int .u8 (IntKind.wrap .u8 a0)] 5 fun x11 =>
        strOf (Sl.mk (some x11) 2 2) fun x12 =>
        chk (x12.size + a1.size ≤ 9223372036854775807) <|
        lt (x12 ++ a1) fun x14 =>
        ret (x14, (0 : Int))
set_option maxRecDepth 100000 in
theorem close_Put_ref (K : Nat) (a0 : Int) (a1 : ByteArray) : Does Try.prog 36 [.int .i64 a0, .string a1] (close_Put K a0 a1) (fun r => .tuple #[.string r.1, .int .i64 r.2]) := by
  refine Does.of Try.func36 rfl rfl rfl ?_
  unfold close_Put
  refine RefC.seq ?_
  refine RefC.region ?_
  refine RefL.pure rfl rfl (RanP.assign rfl) ?_
  refine RefL.lt 4 (fun y => .string y) rfl fun x1 => ?_
  refine RefL.pure rfl rfl (RanP.assign rfl) ?_
  refine RefL.nil ?_
  refine RefE.next ?_
  refine RefC.seq ?_
  refine RefC.block ?_
  refine RefC.seq ?_
  refine RefC.region ?_
  refine RefL.pure rfl rfl (RanP.move rfl) ?_
  refine RefL.pure rfl rfl (RanP.eql rfl rfl) ?_
  refine RefL.pure rfl rfl (RanP.move rfl) ?_
  refine RefL.cut (enc := fun (x2 : Bool) => ([(12, .bool x2), (0, .int .i64 a0), (1, .string a1)] : Env)) 3 ?_ ?_
  · refine RefL.ite (s := 9) rfl ?_ ?_
    · refine RefL.pure rfl rfl (RanP.move rfl) ?_
      refine RefL.pure rfl rfl (RanP.eqlS rfl rfl) ?_
      refine RefL.pure rfl rfl (RanP.pickT rfl rfl) ?_
      refine RefL.nil ?_
      exact RefE.fin (s := (sEq a1 (ByteArray.mk #[]))) ⟨rfl, rfl, rfl, trivial⟩
    · refine RefL.skip rfl rfl ?_
      refine RefL.skip rfl rfl ?_
      refine RefL.pure rfl rfl (RanP.pickF rfl rfl) ?_
      refine RefL.nil ?_
      exact RefE.fin (s := false) ⟨rfl, rfl, rfl, trivial⟩
  · intro x2
    refine RefL.pure rfl rfl (RanP.assign rfl) ?_
    refine RefL.nil ?_
    refine RefE.next ?_
    refine RefC.cond rfl ?_ ?_
    · refine RefC.seq ?_
      refine RefC.region ?_
      refine RefL.pure rfl rfl (RanP.assign rfl) ?_
      refine RefL.lt 4 (fun y => .string y) rfl fun x3 => ?_
      refine RefL.pure rfl rfl (RanP.assign rfl) ?_
      refine RefL.nil ?_
      refine RefE.next ?_
      refine RefC.ret ?_
      refine RefE.blockRet ?_
      refine RefE.thenRet ?_
      refine RefE.retV rfl ?_
      refine RefV.tmp rfl ?_
      refine RefV.tmp rfl ?_
      exact RefV.nil rfl
    · refine RefC.seq ?_
      refine RefC.region ?_
      refine RefL.pure rfl rfl (RanP.move rfl) ?_
      refine RefL.hv rfl rfl (Hv.call (close_Valid_ref K a0) Try.call57 rfl rfl rfl fun x4 => ?_)
      refine RefL.pure rfl rfl (RanP.not rfl) ?_
      refine RefL.pure rfl rfl (RanP.move rfl) ?_
      refine RefL.cut (enc := fun (x5 : Bool) => ([(21, .bool x5), (0, .int .i64 a0), (1, .string a1)] : Env)) 4 ?_ ?_
      · refine RefL.ite (s := 17) rfl ?_ ?_
        · refine RefL.skip rfl rfl ?_
          refine RefL.skip rfl rfl ?_
          refine RefL.skip rfl rfl ?_
          refine RefL.pure rfl rfl (RanP.pickT rfl rfl) ?_
          refine RefL.nil ?_
          exact RefE.fin (s := true) ⟨rfl, rfl, rfl, trivial⟩
        · refine RefL.pure rfl rfl (RanP.move rfl) ?_
          refine RefL.pure rfl rfl (RanP.lenS rfl Try.underlying9 rfl) ?_
          refine RefL.pure rfl rfl (RanP.gtr rfl rfl) ?_
          refine RefL.pure rfl rfl (RanP.pickF rfl rfl) ?_
          refine RefL.nil ?_
          exact RefE.fin (s := (decide ((123 : Int) < (a1.size : Int)))) ⟨rfl, rfl, rfl, trivial⟩
      · intro x5
        refine RefL.pure rfl rfl (RanP.assign rfl) ?_
        refine RefL.nil ?_
        refine RefE.next ?_
        refine RefC.cond rfl ?_ ?_
        · refine RefC.seq ?_
          refine RefC.region ?_
          refine RefL.pure rfl rfl (RanP.assign rfl) ?_
          refine RefL.lt 4 (fun y => .string y) rfl fun x6 => ?_
          refine RefL.pure rfl rfl (RanP.assign rfl) ?_
          refine RefL.nil ?_
          refine RefE.next ?_
          refine RefC.ret ?_
          refine RefE.blockRet ?_
          refine RefE.thenRet ?_
          refine RefE.retV rfl ?_
          refine RefV.tmp rfl ?_
          refine RefV.tmp rfl ?_
          exact RefV.nil rfl
        · refine RefC.seq ?_
          refine RefC.region ?_
          refine RefL.pure rfl rfl (RanP.move rfl) ?_
          refine RefL.hv rfl rfl (Hv.bytesOf Try.underlying9 Try.underlying36 Try.underlying5 rfl fun x7 => ?_)
          refine RefL.hv rfl rfl (Hv.call (utf_Valid_ref K x7) Try.call58 rfl rfl rfl fun x8 => ?_)
          refine RefL.pure rfl rfl (RanP.not rfl) ?_
          refine RefL.pure rfl rfl (RanP.assign rfl) ?_
          refine RefL.lt 22 (fun y => .bool y) rfl fun x9 => ?_
          refine RefL.nil ?_
          refine RefE.next ?_
          refine RefC.cond rfl ?_ ?_
          · refine RefC.seq ?_
            refine RefC.region ?_
            refine RefL.pure rfl rfl (RanP.assign rfl) ?_
            refine RefL.lt 4 (fun y => .string y) rfl fun x10 => ?_
            refine RefL.pure rfl rfl (RanP.assign rfl) ?_
            refine RefL.nil ?_
            refine RefE.next ?_
            refine RefC.ret ?_
            refine RefE.blockRet ?_
            refine RefE.thenRet ?_
            refine RefE.retV rfl ?_
            refine RefV.tmp rfl ?_
            refine RefV.tmp rfl ?_
            exact RefV.nil rfl
          · refine RefC.skip ?_
            refine RefE.blockNormal ?_
            refine RefE.next ?_
            refine RefC.seq ?_
            refine RefC.region ?_
            refine RefL.pure rfl rfl (RanP.move rfl) ?_
            refine RefL.pure rfl rfl (RanP.shr (by decide) rfl rfl) ?_
            refine RefL.pure rfl rfl (RanP.conv Try.underlying3 Try.underlying5 rfl) ?_
            refine RefL.pure rfl rfl (RanP.move rfl) ?_
            refine RefL.pure rfl rfl (RanP.conv Try.underlying3 Try.underlying5 rfl) ?_
            refine RefL.hv rfl rfl (Hv.buildSlice rfl (cs := [.int .u8 (IntKind.wrap .u8 (shrI .i64 a0 (8 : Int))), .int .u8 (IntKind.wrap .u8 a0)]) (e := 5) (fun _ => by kernel_rfl) fun x11 => ?_)
            refine RefL.li rfl rfl (Lt.strOf Try.underlying36 Try.underlying9 Try.underlying5 rfl fun x12 => ?_)
            refine RefL.pure rfl rfl (RanP.move rfl) ?_
            refine RefL.chk fun h13 => ?_
            refine RefL.pure rfl rfl (RanP.addS h13 rfl rfl) ?_
            refine RefL.pure rfl rfl (RanP.assign rfl) ?_
            refine RefL.lt 4 (fun y => .string y) rfl fun x14 => ?_
            refine RefL.pure rfl rfl (RanP.assign rfl) ?_
            refine RefL.nil ?_
            refine RefE.next ?_
            refine RefC.ret ?_
            refine RefE.retV rfl ?_
            refine RefV.tmp rfl ?_
            refine RefV.tmp rfl ?_
            exact RefV.nil rfl

def ring_Ring_Room (K : Nat) (a0 : Option Addr) : G (Int) :=
  drw <|
  nn a0 fun x1 =>
  ldSl (x1.add 0) fun x2 =>
  nn a0 fun x3 =>
  ldI .i64 (x3.add 2) fun x4 =>
  lt (IntKind.wrap .i64 ((x2.n : Int) - x4)) fun x5 =>
  ret x5
set_option maxRecDepth 100000 in
theorem ring_Ring_Room_ref (K : Nat) (a0 : Option Addr) : Does Try.prog 95 [.pointer a0] (ring_Ring_Room K a0) (fun r => .int .i64 r) := by
  refine Does.of Try.func95 rfl rfl rfl ?_
  unfold ring_Ring_Room
  refine RefC.seq ?_
  refine RefC.region ?_
  refine RefL.pure rfl rfl (RanP.assign rfl) ?_
  refine RefL.nil ?_
  refine RefE.next ?_
  refine RefC.seq ?_
  refine RefC.draw mixed [0, 1, 3, 7, 15, 0, 32, 96, 224, 511, 1023] [.lp 0, .lp 1, .lp 2, .li 3, .lp 4, .lp 5, .lp 6, .lp 7, .li 8, .lp 9, .lp 10] (by kernel_rfl) ?_
  refine RefD.pure (at_ rfl) rfl (RanP.move rfl) ?_
  refine RefD.any (at_ rfl) rfl (Lt.nn rfl fun x1 => ?_)
  refine RefD.pure (at_ rfl) rfl (RanP.fieldAddr fa_99_0 rfl) ?_
  refine RefD.li0 (at_ rfl) rfl (Lt.ldSl Try.isAgg36 rfl fun x2 => ?_)
  refine RefD.pure (at_ rfl) rfl (RanP.lenSl rfl Try.underlying36 rfl) ?_
  refine RefD.pure (at_ rfl) rfl (RanP.move rfl) ?_
  refine RefD.any (at_ rfl) rfl (Lt.nn rfl fun x3 => ?_)
  refine RefD.pure (at_ rfl) rfl (RanP.fieldAddr fa_99_2 rfl) ?_
  refine RefD.li0 (at_ rfl) rfl (Lt.ldI Try.isAgg3 rfl fun x4 => ?_)
  refine RefD.pure (at_ rfl) rfl (RanP.sub rfl rfl) ?_
  refine RefD.pure (at_ rfl) rfl (RanP.assign rfl) ?_
  refine RefD.lt 2 (fun y => .int .i64 y) rfl fun x5 => ?_
  refine RefD.nil ?_
  refine RefE.next ?_
  refine RefC.ret ?_
  refine RefE.retV rfl ?_
  refine RefV.tmp rfl ?_
  exact RefV.nil rfl

def ring_Ring_Put (K : Nat) (a0 : Option Addr) (a1 : Sl) : G (Int) :=
  bnd (ring_Ring_Room K a0) fun x1 =>
  slS a1 none (some (if x1 < (a1.n : Int) then x1 else (a1.n : Int))) (some (a1.n : Int)) 1 fun x2 =>
  drw <|
  nn a0 fun x3 =>
  ldI .i64 (x3.add 1) fun x4 =>
  nn a0 fun x5 =>
  ldI .i64 (x5.add 2) fun x6 =>
  nn a0 fun x7 =>
  ldSl (x7.add 0) fun x8 =>
  chk ((x8.n : Int) ≠ 0) <|
  lt (Int.tmod (IntKind.wrap .i64 (x4 + x6)) (x8.n : Int)) fun x10 =>
  nn a0 fun x11 =>
  ldSl (x11.add 0) fun x12 =>
  slS x12 (some x10) none none 1 fun x13 =>
  cpy 1 x13 x2 fun x14 =>
  drw <|
  nn a0 fun x15 =>
  ldSl (x15.add 0) fun x16 =>
  slS x2 (some x14) none none 1 fun x17 =>
  cpy 1 x16 x17 fun x18 =>
  nn a0 fun x19 =>
  ldI .i64 (x19.add 2) fun x20 =>
  nn a0 fun x21 =>
  st (x21.add 2) (.int .i64 (IntKind.wrap .i64 (x20 + (x2.n : Int)))) <|
  lt (x2.n : Int) fun x22 =>
  ret x22
set_option maxRecDepth 100000 in
theorem ring_Ring_Put_ref (K : Nat) (a0 : Option Addr) (a1 : Sl) : Does Try.prog 74 [.pointer a0, .slice a1.a a1.n a1.c] (ring_Ring_Put K a0 a1) (fun r => .int .i64 r) := by
  refine Does.of Try.func74 rfl rfl rfl ?_
  unfold ring_Ring_Put
  refine RefC.seq ?_
  refine RefC.region ?_
  refine RefL.pure rfl rfl (RanP.assign rfl) ?_
  refine RefL.nil ?_
  refine RefE.next ?_
  refine RefC.seq ?_
  refine RefC.region ?_
  refine RefL.pure rfl rfl (RanP.move rfl) ?_
  refine RefL.pure rfl rfl (RanP.move rfl) ?_
  refine RefL.pure rfl rfl (RanP.lenSl rfl Try.underlying36 rfl) ?_
  refine RefL.pure rfl rfl (RanP.move rfl) ?_
  refine RefL.hv rfl rfl (Hv.call (ring_Ring_Room_ref K a0) Try.call95 rfl rfl rfl fun x1 => ?_)
  refine RefL.pure rfl rfl (RanP.min2 rfl) ?_
  refine RefL.pure rfl rfl (RanP.move rfl) ?_
  refine RefL.pure rfl rfl (RanP.lenSl rfl Try.underlying36 rfl) ?_
  refine RefL.li rfl rfl (Lt.slS (kl := .i64) (kh := .i64) (km := .i64) Try.underlying36 Try.sizeOf5 rfl rfl rfl rfl (by simp) fun x2 => ?_)
  refine RefL.pure rfl rfl (RanP.assign rfl) ?_
  refine RefL.nil ?_
  refine RefE.next ?_
  refine RefC.seq ?_
  refine RefC.draw mixed [0, 1, 3, 7, 0, 16, 48, 112, 255, 0, 512, 1536, 3584, 7680, 16383, 32767] [.lp 0, .lp 1, .lp 2, .li 3, .lp 4, .lp 5, .lp 6, .li 7, .lp 8, .lp 9, .lp 10, .lp 11, .li 12, .lp 13, .lp 14, .lp 15] (by kernel_rfl) ?_
  refine RefD.pure (at_ rfl) rfl (RanP.move rfl) ?_
  refine RefD.any (at_ rfl) rfl (Lt.nn rfl fun x3 => ?_)
  refine RefD.pure (at_ rfl) rfl (RanP.fieldAddr fa_99_1 rfl) ?_
  refine RefD.li0 (at_ rfl) rfl (Lt.ldI Try.isAgg3 rfl fun x4 => ?_)
  refine RefD.pure (at_ rfl) rfl (RanP.move rfl) ?_
  refine RefD.any (at_ rfl) rfl (Lt.nn rfl fun x5 => ?_)
  refine RefD.pure (at_ rfl) rfl (RanP.fieldAddr fa_99_2 rfl) ?_
  refine RefD.li0 (at_ rfl) rfl (Lt.ldI Try.isAgg3 rfl fun x6 => ?_)
  refine RefD.pure (at_ rfl) rfl (RanP.add rfl rfl) ?_
  refine RefD.pure (at_ rfl) rfl (RanP.move rfl) ?_
  refine RefD.any (at_ rfl) rfl (Lt.nn rfl fun x7 => ?_)
  refine RefD.pure (at_ rfl) rfl (RanP.fieldAddr fa_99_0 rfl) ?_
  refine RefD.li0 (at_ rfl) rfl (Lt.ldSl Try.isAgg36 rfl fun x8 => ?_)
  refine RefD.pure (at_ rfl) rfl (RanP.lenSl rfl Try.underlying36 rfl) ?_
  refine RefD.chk fun h9 => ?_
  refine RefD.pure (at_ rfl) rfl (RanP.rem h9 rfl rfl) ?_
  refine RefD.pure (at_ rfl) rfl (RanP.assign rfl) ?_
  refine RefD.lt 5 (fun y => .int .i64 y) rfl fun x10 => ?_
  refine RefD.nil ?_
  refine RefE.next ?_
  refine RefC.seq ?_
  refine RefC.region ?_
  refine RefL.pure rfl rfl (RanP.move rfl) ?_
  refine RefL.li rfl rfl (Lt.nn rfl fun x11 => ?_)
  refine RefL.pure rfl rfl (RanP.fieldAddr fa_99_0 rfl) ?_
  refine RefL.li rfl rfl (Lt.ldSl Try.isAgg36 rfl fun x12 => ?_)
  refine RefL.pure rfl rfl (RanP.move rfl) ?_
  refine RefL.li rfl rfl (Lt.slS (kl := .i64) (kh := .i64) (km := .i64) Try.underlying36 Try.sizeOf5 rfl rfl rfl rfl (by simp) fun x13 => ?_)
  refine RefL.pure rfl rfl (RanP.move rfl) ?_
  refine RefL.hv rfl rfl (Hv.cpy rfl Try.underlying36 Try.sizeOf5 rfl fun x14 => ?_)
  refine RefL.pure rfl rfl (RanP.assign rfl) ?_
  refine RefL.nil ?_
  refine RefE.next ?_
  refine RefC.seq ?_
  refine RefC.draw mixed [0, 1, 3, 7, 0, 0, 48, 127] [.lp 0, .lp 1, .lp 2, .li 3, .lp 4, .lp 5, .lp 6, .hv 7] (by kernel_rfl) ?_
  refine RefD.pure (at_ rfl) rfl (RanP.move rfl) ?_
  refine RefD.any (at_ rfl) rfl (Lt.nn rfl fun x15 => ?_)
  refine RefD.pure (at_ rfl) rfl (RanP.fieldAddr fa_99_0 rfl) ?_
  refine RefD.li0 (at_ rfl) rfl (Lt.ldSl Try.isAgg36 rfl fun x16 => ?_)
  refine RefD.pure (at_ rfl) rfl (RanP.move rfl) ?_
  refine RefD.pure (at_ rfl) rfl (RanP.move rfl) ?_
  refine RefD.any (at_ rfl) rfl (Lt.slS (kl := .i64) (kh := .i64) (km := .i64) Try.underlying36 Try.sizeOf5 rfl rfl rfl rfl (by simp) fun x17 => ?_)
  refine RefD.hv (at_ rfl) rfl (Hv.cpy rfl Try.underlying36 Try.sizeOf5 rfl fun x18 => ?_)
  refine RefD.nil ?_
  refine RefE.next ?_
  refine RefC.seq ?_
  refine RefC.region ?_
  refine RefL.pure rfl rfl (RanP.move rfl) ?_
  refine RefL.li rfl rfl (Lt.nn rfl fun x19 => ?_)
  refine RefL.pure rfl rfl (RanP.fieldAddr fa_99_2 rfl) ?_
  refine RefL.li rfl rfl (Lt.ldI Try.isAgg3 rfl fun x20 => ?_)
  refine RefL.pure rfl rfl (RanP.move rfl) ?_
  refine RefL.pure rfl rfl (RanP.lenSl rfl Try.underlying36 rfl) ?_
  refine RefL.pure rfl rfl (RanP.add rfl rfl) ?_
  refine RefL.li rfl rfl (Lt.nn rfl fun x21 => ?_)
  refine RefL.pure rfl rfl (RanP.fieldAddr fa_99_2 rfl) ?_
  refine RefL.hv rfl rfl (Hv.st Try.sizeOf3 rfl rfl rfl ?_)
  refine RefL.nil ?_
  refine RefE.next ?_
  refine RefC.seq ?_
  refine RefC.region ?_
  refine RefL.pure rfl rfl (RanP.move rfl) ?_
  refine RefL.pure rfl rfl (RanP.lenSl rfl Try.underlying36 rfl) ?_
  refine RefL.pure rfl rfl (RanP.assign rfl) ?_
  refine RefL.lt 4 (fun y => .int .i64 y) rfl fun x22 => ?_
  refine RefL.nil ?_
  refine RefE.next ?_
  refine RefC.ret ?_
  refine RefE.retV rfl ?_
  refine RefV.tmp rfl ?_
  exact RefV.nil rfl

def leg_output_push (K : Nat) (a0 : Option Addr) : G (Bool) :=
  drw <|
  nn a0 fun x1 =>
  wld fun w3 =>
  ldSl (x1.add 1) fun x2 =>
  nn a0 fun x4 =>
  ldP (x4.add 0) fun x5 =>
  nn a0 fun x6 =>
  ldSl (x6.add 1) fun x7 =>
  bnd (ring_Ring_Put K x5 x7) fun x8 =>
  agr (like (x1.add 1) 1 w3) <|
  slS x2 (some x8) none none 1 fun x9 =>
  nn a0 fun x10 =>
  st (x10.add 1) (.slice x9.a x9.n x9.c) <|
  nn a0 fun x11 =>
  ldSl (x11.add 1) fun x12 =>
  lt ((x12.n : Int) == (0 : Int)) fun x13 =>
  ret x13
set_option maxRecDepth 100000 in
theorem leg_output_push_ref (K : Nat) (a0 : Option Addr) : Does Try.prog 54 [.pointer a0] (leg_output_push K a0) (fun r => .bool r) := by
  refine Does.of Try.func54 rfl rfl rfl ?_
  unfold leg_output_push
  refine RefC.seq ?_
  refine RefC.region ?_
  refine RefL.pure rfl rfl (RanP.assign rfl) ?_
  refine RefL.nil ?_
  refine RefE.next ?_
  refine RefC.seq ?_
  refine RefC.draw mixed [0, 0, 2, 6, 14, 0, 32, 96, 224, 0, 512, 1536, 3584, 8160, 16382, 32767, 65535, 131071] [.lp 0, .lp 1, .lp 2, .lp 3, .li 4, .lp 5, .lp 6, .lp 7, .li 8, .lp 9, .lp 10, .lp 11, .li 12, .hv 13, .re 4, .lp 14, .lp 15, .lp 16, .hv 17] (by kernel_rfl) ?_
  refine RefD.pure (at_ rfl) rfl (RanP.move rfl) ?_
  refine RefD.pure (at_ rfl) rfl (RanP.move rfl) ?_
  refine RefD.any (at_ rfl) rfl (Lt.nn rfl fun x1 => ?_)
  refine RefD.pure (at_ rfl) rfl (RanP.fieldAddr fa_69_1 rfl) ?_
  refine RefD.li (at_ rfl) rfl fun w3 => (Lt.ldSl Try.isAgg36 rfl fun x2 => ?_)
  refine RefD.pure (at_ rfl) rfl (RanP.move rfl) ?_
  refine RefD.any (at_ rfl) rfl (Lt.nn rfl fun x4 => ?_)
  refine RefD.pure (at_ rfl) rfl (RanP.fieldAddr fa_69_0 rfl) ?_
  refine RefD.li0 (at_ rfl) rfl (Lt.ldP Try.isAgg67 rfl fun x5 => ?_)
  refine RefD.pure (at_ rfl) rfl (RanP.move rfl) ?_
  refine RefD.any (at_ rfl) rfl (Lt.nn rfl fun x6 => ?_)
  refine RefD.pure (at_ rfl) rfl (RanP.fieldAddr fa_69_1 rfl) ?_
  refine RefD.li0 (at_ rfl) rfl (Lt.ldSl Try.isAgg36 rfl fun x7 => ?_)
  refine RefD.hv (at_ rfl) rfl (Hv.call (ring_Ring_Put_ref K x5 x7) Try.call74 rfl rfl rfl fun x8 => ?_)
  refine RefD.re rfl ?_
  refine RefD.any (at_ rfl) rfl (Lt.slS (kl := .i64) (kh := .i64) (km := .i64) Try.underlying36 Try.sizeOf5 rfl rfl rfl rfl (by simp) fun x9 => ?_)
  refine RefD.any (at_ rfl) rfl (Lt.nn rfl fun x10 => ?_)
  refine RefD.pure (at_ rfl) rfl (RanP.fieldAddr fa_69_1 rfl) ?_
  refine RefD.hv (at_ rfl) rfl (Hv.st Try.sizeOf36 rfl rfl rfl ?_)
  refine RefD.nil ?_
  refine RefE.next ?_
  refine RefC.seq ?_
  refine RefC.region ?_
  refine RefL.pure rfl rfl (RanP.move rfl) ?_
  refine RefL.li rfl rfl (Lt.nn rfl fun x11 => ?_)
  refine RefL.pure rfl rfl (RanP.fieldAddr fa_69_1 rfl) ?_
  refine RefL.li rfl rfl (Lt.ldSl Try.isAgg36 rfl fun x12 => ?_)
  refine RefL.pure rfl rfl (RanP.lenSl rfl Try.underlying36 rfl) ?_
  refine RefL.pure rfl rfl (RanP.eql rfl rfl) ?_
  refine RefL.pure rfl rfl (RanP.assign rfl) ?_
  refine RefL.lt 2 (fun y => .bool y) rfl fun x13 => ?_
  refine RefL.nil ?_
  refine RefE.next ?_
  refine RefC.ret ?_
  refine RefE.retV rfl ?_
  refine RefV.tmp rfl ?_
  exact RefV.nil rfl

def mask_Key (K : Nat) (a0 : Int) : G (A4u8) :=
  new [.int .u8 (0 : Int), .int .u8 (0 : Int), .int .u8 (0 : Int), .int .u8 (0 : Int)] 57 fun x1 =>
  st x1 (.agg (Agg.cells (A4u8.mk (IntKind.wrap .u8 (shrI .u32 a0 (24 : Int))) (IntKind.wrap .u8 (shrI .u32 a0 (16 : Int))) (IntKind.wrap .u8 (shrI .u32 a0 (8 : Int))) (IntKind.wrap .u8 a0))).toArray) <|
  ldG (α := A4u8) x1 fun r2 =>
  ret r2
set_option maxRecDepth 100000 in
theorem mask_Key_ref (K : Nat) (a0 : Int) : Does Try.prog 75 [.int .u32 a0] (mask_Key K a0) (fun r => .agg (Agg.cells r).toArray) := by
  refine Does.of Try.func75 rfl rfl rfl ?_
  unfold mask_Key
  refine RefC.seq ?_
  refine RefC.region ?_
  refine RefL.hv rfl rfl (Hv.newZ Try.zeroValue57 rfl fun x1 => ?_)
  refine RefL.nil ?_
  refine RefE.next ?_
  refine RefC.seq ?_
  refine RefC.region ?_
  refine RefL.pure rfl rfl (RanP.move rfl) ?_
  refine RefL.pure rfl rfl (RanP.shr (by decide) rfl rfl) ?_
  refine RefL.pure rfl rfl (RanP.conv Try.underlying31 Try.underlying5 rfl) ?_
  refine RefL.pure rfl rfl (RanP.move rfl) ?_
  refine RefL.pure rfl rfl (RanP.shr (by decide) rfl rfl) ?_
  refine RefL.pure rfl rfl (RanP.conv Try.underlying31 Try.underlying5 rfl) ?_
  refine RefL.pure rfl rfl (RanP.move rfl) ?_
  refine RefL.pure rfl rfl (RanP.shr (by decide) rfl rfl) ?_
  refine RefL.pure rfl rfl (RanP.conv Try.underlying31 Try.underlying5 rfl) ?_
  refine RefL.pure rfl rfl (RanP.move rfl) ?_
  refine RefL.pure rfl rfl (RanP.conv Try.underlying31 Try.underlying5 rfl) ?_
  refine RefL.pure rfl rfl (RanP.build rfl (v := .agg (Agg.cells (A4u8.mk (IntKind.wrap .u8 (shrI .u32 a0 (24 : Int))) (IntKind.wrap .u8 (shrI .u32 a0 (16 : Int))) (IntKind.wrap .u8 (shrI .u32 a0 (8 : Int))) (IntKind.wrap .u8 a0))).toArray) (fun _ => by kernel_rfl)) ?_
  refine RefL.hv rfl rfl (Hv.st Try.sizeOf57 rfl rfl rfl ?_)
  refine RefL.nil ?_
  refine RefE.next ?_
  refine RefC.ret ?_
  refine RefE.retV rfl ?_
  refine RefV.cellG Try.isAgg57 Try.sizeOf57 rfl fun r2 => ?_
  exact RefV.nil rfl

def leg_Leg_next (K : Nat) (a0 : Option Addr) : G (Tapi_Frame × Bool) :=
  new [.bool false, .int .i64 (0 : Int), .bool false, .int .u8 (0 : Int), .int .u8 (0 : Int), .int .u8 (0 : Int), .int .u8 (0 : Int), .string (ByteArray.mk #[])] 59 fun x1 =>
  nn a0 fun x2 =>
  nn a0 fun x3 =>
  ldSl (x3.add 16) fun x4 =>
  bnd (
    if ((x4.n : Int) == (0 : Int)) = true then
      nn a0 fun x6 =>
      ret ((x6.add 17))
    else
      ret ((x2.add 16))) fun (s7 : Addr) =>
  ldSl s7 fun x8 =>
  if ((x8.n : Int) == (0 : Int)) = true then
    st x1 (.agg (Agg.cells (Tapi_Frame.mk false (0 : Int) false (0 : Int) (0 : Int) (0 : Int) (0 : Int) (ByteArray.mk #[]))).toArray) <|
    ldG (α := Tapi_Frame) x1 fun r9 =>
    ret (r9, false)
  else
    ldSl s7 fun x10 =>
    ixA x10 (0 : Int) 8 fun x11 =>
    ldG (α := Tapi_Frame) x11 fun x12 =>
    new [.bool false, .int .i64 (0 : Int), .bool false, .int .u8 (0 : Int), .int .u8 (0 : Int), .int .u8 (0 : Int), .int .u8 (0 : Int), .string (ByteArray.mk #[])] 59 fun x13 =>
    st x13 (.agg (Agg.cells x12).toArray) <|
    ldSl s7 fun x14 =>
    slS x14 (some (1 : Int)) none none 8 fun x15 =>
    st s7 (.slice x15.a x15.n x15.c) <|
    nn a0 fun x16 =>
    ldB (x16.add 18) fun x17 =>
    bnd (
      if x17 = true then
        nn a0 fun x24 =>
        ldI .u32 (x24.add 19) fun x25 =>
        nn a0 fun x26 =>
        st (x26.add 19) (.int .u32 (IntKind.wrap .u32 ((IntKind.wrap .u32 (x25 * (1664525 : Int))) + (1013904223 : Int)))) <|
        nn a0 fun x27 =>
        ldI .u32 (x27.add 19) fun x28 =>
        bnd (mask_Key K x28) fun x29 =>
        st (x13.add 2) (.bool true) <|
        st (x13.add 3) (.agg (Agg.cells x29).toArray) <|
        ret ()
      else
        ret ()) fun (s30 : Unit) =>
    ldG (α := Tapi_Frame) x13 fun x31 =>
    st x1 (.agg (Agg.cells x31).toArray) <|
    ldG (α := Tapi_Frame) x1 fun r32 =>
    ret (r32, true)
set_option maxRecDepth 100000 in
theorem leg_Leg_next_ref (K : Nat) (a0 : Option Addr) : Does Try.prog 55 [.pointer a0] (leg_Leg_next K a0) (fun r => .tuple #[.agg (Agg.cells r.1).toArray, .bool r.2]) := by
  refine Does.of Try.func55 rfl rfl rfl ?_
  unfold leg_Leg_next
  refine RefC.seq ?_
  refine RefC.region ?_
  refine RefL.hv rfl rfl (Hv.newZ Try.zeroValue59 rfl fun x1 => ?_)
  refine RefL.pure rfl rfl (RanP.assign rfl) ?_
  refine RefL.nil ?_
  refine RefE.next ?_
  refine RefC.seq ?_
  refine RefC.region ?_
  refine RefL.pure rfl rfl (RanP.move rfl) ?_
  refine RefL.li rfl rfl (Lt.nn rfl fun x2 => ?_)
  refine RefL.pure rfl rfl (RanP.fieldAddr fa_71_4 rfl) ?_
  refine RefL.pure rfl rfl (RanP.assign rfl) ?_
  refine RefL.nil ?_
  refine RefE.next ?_
  refine RefC.seq ?_
  refine RefC.seq ?_
  refine RefC.region ?_
  refine RefL.pure rfl rfl (RanP.move rfl) ?_
  refine RefL.li rfl rfl (Lt.nn rfl fun x3 => ?_)
  refine RefL.pure rfl rfl (RanP.fieldAddr fa_71_4 rfl) ?_
  refine RefL.li rfl rfl (Lt.ldSl Try.isAgg54 rfl fun x4 => ?_)
  refine RefL.pure rfl rfl (RanP.lenSl rfl Try.underlying54 rfl) ?_
  refine RefL.pure rfl rfl (RanP.eql rfl rfl) ?_
  refine RefL.nil ?_
  refine RefE.next ?_
  refine RefC.cut (enc := fun (s7 : Addr) => ([(4, .pointer (some s7)), (0, .pointer a0), (2, .pointer (some x1))] : Env)) ?_ ?_
  · refine RefC.cond rfl ?_ ?_
    · refine RefC.region ?_
      refine RefL.pure rfl rfl (RanP.move rfl) ?_
      refine RefL.li rfl rfl (Lt.nn rfl fun x6 => ?_)
      refine RefL.pure rfl rfl (RanP.fieldAddr fa_71_5 rfl) ?_
      refine RefL.pure rfl rfl (RanP.assign rfl) ?_
      refine RefL.nil ?_
      exact RefE.fin (s := ((x6.add 17))) ⟨rfl, rfl, rfl, trivial⟩
    · refine RefC.skip ?_
      exact RefE.fin (s := ((x2.add 16))) ⟨rfl, rfl, rfl, trivial⟩
  · intro s7
    refine RefE.next ?_
    refine RefC.seq ?_
    refine RefC.seq ?_
    refine RefC.region ?_
    refine RefL.pure rfl rfl (RanP.move rfl) ?_
    refine RefL.pure rfl rfl (RanP.nilCheck rfl) ?_
    refine RefL.li rfl rfl (Lt.ldSl Try.isAgg54 rfl fun x8 => ?_)
    refine RefL.pure rfl rfl (RanP.lenSl rfl Try.underlying54 rfl) ?_
    refine RefL.pure rfl rfl (RanP.eql rfl rfl) ?_
    refine RefL.nil ?_
    refine RefE.next ?_
    refine RefC.cond rfl ?_ ?_
    · refine RefC.seq ?_
      refine RefC.region ?_
      refine RefL.pure rfl rfl (RanP.build rfl (v := .agg (Agg.cells (Tapi_Frame.mk false (0 : Int) false (0 : Int) (0 : Int) (0 : Int) (0 : Int) (ByteArray.mk #[]))).toArray) (fun _ => by kernel_rfl)) ?_
      refine RefL.hv rfl rfl (Hv.st Try.sizeOf59 rfl rfl rfl ?_)
      refine RefL.pure rfl rfl (RanP.assign rfl) ?_
      refine RefL.nil ?_
      refine RefE.next ?_
      refine RefC.ret ?_
      refine RefE.thenRet ?_
      refine RefE.retV rfl ?_
      refine RefV.cellG Try.isAgg59 Try.sizeOf59 rfl fun r9 => ?_
      refine RefV.tmp rfl ?_
      exact RefV.nil rfl
    · refine RefC.skip ?_
      refine RefE.next ?_
      refine RefC.seq ?_
      refine RefC.region ?_
      refine RefL.pure rfl rfl (RanP.move rfl) ?_
      refine RefL.pure rfl rfl (RanP.nilCheck rfl) ?_
      refine RefL.li rfl rfl (Lt.ldSl Try.isAgg54 rfl fun x10 => ?_)
      refine RefL.li rfl rfl (Lt.ixA Try.underlying54 Try.sizeOf59 rfl rfl fun x11 => ?_)
      refine RefL.li rfl rfl (Lt.ldG (τ := Tapi_Frame) Try.isAgg59 Try.sizeOf59 rfl fun x12 => ?_)
      refine RefL.hv rfl rfl (Hv.newZ Try.zeroValue59 rfl fun x13 => ?_)
      refine RefL.hv rfl rfl (Hv.st Try.sizeOf59 rfl rfl rfl ?_)
      refine RefL.nil ?_
      refine RefE.next ?_
      refine RefC.seq ?_
      refine RefC.region ?_
      refine RefL.pure rfl rfl (RanP.move rfl) ?_
      refine RefL.pure rfl rfl (RanP.move rfl) ?_
      refine RefL.pure rfl rfl (RanP.nilCheck rfl) ?_
      refine RefL.li rfl rfl (Lt.ldSl Try.isAgg54 rfl fun x14 => ?_)
      refine RefL.li rfl rfl (Lt.slS (kl := .i64) (kh := .i64) (km := .i64) Try.underlying54 Try.sizeOf59 rfl rfl rfl rfl (by simp) fun x15 => ?_)
      refine RefL.pure rfl rfl (RanP.nilCheck rfl) ?_
      refine RefL.hv rfl rfl (Hv.st Try.sizeOf54 rfl rfl rfl ?_)
      refine RefL.nil ?_
      refine RefE.next ?_
      refine RefC.seq ?_
      refine RefC.seq ?_
      refine RefC.region ?_
      refine RefL.pure rfl rfl (RanP.move rfl) ?_
      refine RefL.li rfl rfl (Lt.nn rfl fun x16 => ?_)
      refine RefL.pure rfl rfl (RanP.fieldAddr fa_71_6 rfl) ?_
      refine RefL.li rfl rfl (Lt.ldB Try.isAgg4 rfl fun x17 => ?_)
      refine RefL.nil ?_
      refine RefE.next ?_
      refine RefC.cut (enc := fun (s30 : Unit) => ([(2, .pointer (some x1)), (5, .pointer (some x13))] : Env)) ?_ ?_
      · refine RefC.cond rfl ?_ ?_
        · refine RefC.seq ?_
          refine RefC.region ?_
          refine RefL.pure rfl rfl (RanP.move rfl) ?_
          refine RefL.pure rfl rfl (RanP.move rfl) ?_
          refine RefL.li rfl rfl (Lt.nn rfl fun x24 => ?_)
          refine RefL.pure rfl rfl (RanP.fieldAddr fa_71_7 rfl) ?_
          refine RefL.li rfl rfl (Lt.ldI Try.isAgg31 rfl fun x25 => ?_)
          refine RefL.pure rfl rfl (RanP.mul rfl rfl) ?_
          refine RefL.pure rfl rfl (RanP.add rfl rfl) ?_
          refine RefL.li rfl rfl (Lt.nn rfl fun x26 => ?_)
          refine RefL.pure rfl rfl (RanP.fieldAddr fa_71_7 rfl) ?_
          refine RefL.hv rfl rfl (Hv.st Try.sizeOf31 rfl rfl rfl ?_)
          refine RefL.nil ?_
          refine RefE.next ?_
          refine RefC.region ?_
          refine RefL.pure rfl rfl (RanP.move rfl) ?_
          refine RefL.li rfl rfl (Lt.nn rfl fun x27 => ?_)
          refine RefL.pure rfl rfl (RanP.fieldAddr fa_71_7 rfl) ?_
          refine RefL.li rfl rfl (Lt.ldI Try.isAgg31 rfl fun x28 => ?_)
          refine RefL.hv rfl rfl (Hv.call (mask_Key_ref K x28) Try.call75 rfl rfl rfl fun x29 => ?_)
          refine RefL.pure rfl rfl (RanP.fieldAddr fa_59_2 rfl) ?_
          refine RefL.hv rfl rfl (Hv.st Try.sizeOf4 rfl rfl rfl ?_)
          refine RefL.pure rfl rfl (RanP.fieldAddr fa_59_3 rfl) ?_
          refine RefL.hv rfl rfl (Hv.st Try.sizeOf57 rfl rfl rfl ?_)
          refine RefL.nil ?_
          exact RefE.fin (s := ()) ⟨rfl, rfl, trivial⟩
        · refine RefC.skip ?_
          exact RefE.fin (s := ()) ⟨rfl, rfl, trivial⟩
      · intro s30
        refine RefE.next ?_
        refine RefC.seq ?_
        refine RefC.region ?_
        refine RefL.li rfl rfl (Lt.ldG (τ := Tapi_Frame) Try.isAgg59 Try.sizeOf59 rfl fun x31 => ?_)
        refine RefL.hv rfl rfl (Hv.st Try.sizeOf59 rfl rfl rfl ?_)
        refine RefL.pure rfl rfl (RanP.assign rfl) ?_
        refine RefL.nil ?_
        refine RefE.next ?_
        refine RefC.ret ?_
        refine RefE.retV rfl ?_
        refine RefV.cellG Try.isAgg59 Try.sizeOf59 rfl fun r32 => ?_
        refine RefV.tmp rfl ?_
        exact RefV.nil rfl

def mask_number_l0 (K : Nat) (a1 : Int) (x1 : Sl) (a0 : Int) (again : Int → G (Unit)) (s11 : Int) : G (Unit) :=
  if (decide (s11 < a1)) = true then
    chk ((0 : Int) ≤ (IntKind.wrap .u64 (IntKind.wrap .i64 ((8 : Int) * s11)))) <|
    ixA x1 (IntKind.wrap .i64 ((IntKind.wrap .i64 (a1 - (1 : Int))) - s11)) 1 fun x13 =>
    st x13 (.int .u8 (IntKind.wrap .u8 (shrI .u64 a0 (IntKind.wrap .u64 (IntKind.wrap .i64 ((8 : Int) * s11)))))) <|
    again ((IntKind.wrap .i64 (s11 + (1 : Int))))
  else
    ret ()
def mask_number (K : Nat) (a0 : Int) (a1 : Int) : G (Sl) :=
  mk 5 1 1 [.int .u8 (0 : Int)] a1 a1 fun x1 =>
  bnd (
    loopG (mask_number_l0 K a1 x1 a0) K ((0 : Int))) fun (s14 : Unit) =>
  ret x1
set_option maxRecDepth 100000 in
theorem mask_number_ref (K : Nat) (a0 : Int) (a1 : Int) : Does Try.prog 96 [.int .u64 a0, .int .i64 a1] (mask_number K a0 a1) (fun r => .slice r.a r.n r.c) := by
  refine Does.of Try.func96 rfl rfl rfl ?_
  unfold mask_number
  refine RefC.seq ?_
  refine RefC.region ?_
  refine RefL.pure rfl rfl (RanP.assign rfl) ?_
  refine RefL.nil ?_
  refine RefE.next ?_
  refine RefC.seq ?_
  refine RefC.region ?_
  refine RefL.pure rfl rfl (RanP.move rfl) ?_
  refine RefL.hv rfl rfl (Hv.mk (i := Try.t5) Try.underlying36 rfl rfl rfl rfl rfl rfl fun x1 => ?_)
  refine RefL.pure rfl rfl (RanP.assign rfl) ?_
  refine RefL.nil ?_
  refine RefE.next ?_
  refine RefC.seq ?_
  refine RefC.seq ?_
  refine RefC.region ?_
  refine RefL.pure rfl rfl (RanP.move rfl) ?_
  refine RefL.pure rfl rfl (RanP.move rfl) ?_
  refine RefL.nil ?_
  refine RefE.next ?_
  refine RefC.cut (enc := fun (s14 : Unit) => ([(5, .slice x1.a x1.n x1.c)] : Env)) ?_ ?_
  · refine RefC.block ?_
    refine RefC.loopW (enc := fun (s11 : Int) => ([(10, .int .i64 s11), (0, .int .u64 a0), (1, .int .i64 a1), (5, .slice x1.a x1.n x1.c), (9, .int .i64 a1)] : Env)) ⟨rfl, rfl, rfl, rfl, rfl, trivial⟩ ?_ _
    intro again k ih s11
    unfold mask_number_l0
    refine RefC.seq ?_
    refine RefC.region ?_
    refine RefL.pure rfl rfl (RanP.lss rfl rfl) ?_
    refine RefL.nil ?_
    refine RefE.next ?_
    refine RefC.seq ?_
    refine RefC.cond rfl ?_ ?_
    · refine RefC.skip ?_
      refine RefE.next ?_
      refine RefC.seq ?_
      refine RefC.block ?_
      refine RefC.seq ?_
      refine RefC.region ?_
      refine RefL.pure rfl rfl (RanP.move rfl) ?_
      refine RefL.pure rfl rfl (RanP.assign rfl) ?_
      refine RefL.nil ?_
      refine RefE.next ?_
      refine RefC.region ?_
      refine RefL.pure rfl rfl (RanP.move rfl) ?_
      refine RefL.pure rfl rfl (RanP.move rfl) ?_
      refine RefL.pure rfl rfl (RanP.sub rfl rfl) ?_
      refine RefL.pure rfl rfl (RanP.move rfl) ?_
      refine RefL.pure rfl rfl (RanP.sub rfl rfl) ?_
      refine RefL.pure rfl rfl (RanP.move rfl) ?_
      refine RefL.pure rfl rfl (RanP.move rfl) ?_
      refine RefL.pure rfl rfl (RanP.mul rfl rfl) ?_
      refine RefL.pure rfl rfl (RanP.conv Try.underlying3 Try.underlying113 rfl) ?_
      refine RefL.chk fun h12 => ?_
      refine RefL.pure rfl rfl (RanP.shr h12 rfl rfl) ?_
      refine RefL.pure rfl rfl (RanP.conv Try.underlying133 Try.underlying5 rfl) ?_
      refine RefL.li rfl rfl (Lt.ixA Try.underlying36 Try.sizeOf5 rfl rfl fun x13 => ?_)
      refine RefL.hv rfl rfl (Hv.st Try.sizeOf5 rfl rfl rfl ?_)
      refine RefL.nil ?_
      refine RefE.blockNormal ?_
      refine RefE.next ?_
      refine RefC.region ?_
      refine RefL.pure rfl rfl (RanP.add rfl rfl) ?_
      refine RefL.pure rfl rfl (RanP.move rfl) ?_
      refine RefL.nil ?_
      exact RefE.again (ih ((IntKind.wrap .i64 (s11 + (1 : Int))))) ⟨rfl, rfl, rfl, rfl, rfl, trivial⟩
    · refine RefC.exit ?_
      refine RefE.thenExit ?_
      refine RefE.roundExit ?_
      refine RefE.blockExit ?_
      exact RefE.fin (s := ()) ⟨rfl, trivial⟩
  · intro s14
    refine RefE.next ?_
    refine RefC.seq ?_
    refine RefC.region ?_
    refine RefL.pure rfl rfl (RanP.move rfl) ?_
    refine RefL.pure rfl rfl (RanP.assign rfl) ?_
    refine RefL.nil ?_
    refine RefE.next ?_
    refine RefC.ret ?_
    refine RefE.retV rfl ?_
    refine RefV.tmp rfl ?_
    exact RefV.nil rfl

def mask_Put (K : Nat) (a0 : Int) : G (Sl × Int) :=
  lt (decide ((9223372036854775807 : Int) < a0)) fun x1 =>
  if x1 = true then
    ret (Sl.nil, (81 : Int))
  else
    lt (decide (a0 < (126 : Int))) fun x2 =>
    if x2 = true then
      new [.int .u8 (IntKind.wrap .u8 a0)] 5 fun x3 =>
      ret ((Sl.mk (some x3) 1 1), (0 : Int))
    else
      lt (decide (a0 < (65536 : Int))) fun x4 =>
      if x4 = true then
        new [.int .u8 (126 : Int)] 5 fun x5 =>
        bnd (mask_number K a0 (2 : Int)) fun x6 =>
        appS 5 1 1 [.int .u8 (0 : Int)] (Sl.mk (some x5) 1 1) x6 fun x7 =>
        ret (x7, (0 : Int))
      else
        new [.int .u8 (127 : Int)] 5 fun x8 =>
        bnd (mask_number K a0 (8 : Int)) fun x9 =>
        appS 5 1 1 [.int .u8 (0 : Int)] (Sl.mk (some x8) 1 1) x9 fun x10 =>
        ret (x10, (0 : Int))
set_option maxRecDepth 100000 in
theorem mask_Put_ref (K : Nat) (a0 : Int) : Does Try.prog 76 [.int .u64 a0] (mask_Put K a0) (fun r => .tuple #[.slice r.1.a r.1.n r.1.c, .int .i64 r.2]) := by
  refine Does.of Try.func76 rfl rfl rfl ?_
  unfold mask_Put
  refine RefC.seq ?_
  refine RefC.region ?_
  refine RefL.pure rfl rfl (RanP.assign rfl) ?_
  refine RefL.pure rfl rfl (RanP.assign rfl) ?_
  refine RefL.nil ?_
  refine RefE.next ?_
  refine RefC.seq ?_
  refine RefC.block ?_
  refine RefC.seq ?_
  refine RefC.region ?_
  refine RefL.pure rfl rfl (RanP.move rfl) ?_
  refine RefL.pure rfl rfl (RanP.gtr rfl rfl) ?_
  refine RefL.pure rfl rfl (RanP.assign rfl) ?_
  refine RefL.lt 4 (fun y => .bool y) rfl fun x1 => ?_
  refine RefL.nil ?_
  refine RefE.next ?_
  refine RefC.cond rfl ?_ ?_
  · refine RefC.seq ?_
    refine RefC.region ?_
    refine RefL.pure rfl rfl (RanP.assign rfl) ?_
    refine RefL.pure rfl rfl (RanP.assign rfl) ?_
    refine RefL.nil ?_
    refine RefE.next ?_
    refine RefC.ret ?_
    refine RefE.blockRet ?_
    refine RefE.thenRet ?_
    refine RefE.retV rfl ?_
    refine RefV.tmp rfl ?_
    refine RefV.tmp rfl ?_
    exact RefV.nil rfl
  · refine RefC.seq ?_
    refine RefC.region ?_
    refine RefL.pure rfl rfl (RanP.move rfl) ?_
    refine RefL.pure rfl rfl (RanP.lss rfl rfl) ?_
    refine RefL.pure rfl rfl (RanP.assign rfl) ?_
    refine RefL.lt 7 (fun y => .bool y) rfl fun x2 => ?_
    refine RefL.nil ?_
    refine RefE.next ?_
    refine RefC.cond rfl ?_ ?_
    · refine RefC.seq ?_
      refine RefC.region ?_
      refine RefL.pure rfl rfl (RanP.move rfl) ?_
      refine RefL.pure rfl rfl (RanP.conv Try.underlying133 Try.underlying5 rfl) ?_
      refine RefL.hv rfl rfl (Hv.buildSlice rfl (cs := [.int .u8 (IntKind.wrap .u8 a0)]) (e := 5) (fun _ => by kernel_rfl) fun x3 => ?_)
      refine RefL.pure rfl rfl (RanP.assign rfl) ?_
      refine RefL.pure rfl rfl (RanP.assign rfl) ?_
      refine RefL.nil ?_
      refine RefE.next ?_
      refine RefC.ret ?_
      refine RefE.blockRet ?_
      refine RefE.thenRet ?_
      refine RefE.retV rfl ?_
      refine RefV.tmp rfl ?_
      refine RefV.tmp rfl ?_
      exact RefV.nil rfl
    · refine RefC.seq ?_
      refine RefC.region ?_
      refine RefL.pure rfl rfl (RanP.move rfl) ?_
      refine RefL.pure rfl rfl (RanP.lss rfl rfl) ?_
      refine RefL.pure rfl rfl (RanP.assign rfl) ?_
      refine RefL.lt 13 (fun y => .bool y) rfl fun x4 => ?_
      refine RefL.nil ?_
      refine RefE.next ?_
      refine RefC.cond rfl ?_ ?_
      · refine RefC.seq ?_
        refine RefC.region ?_
        refine RefL.hv rfl rfl (Hv.buildSlice rfl (cs := [.int .u8 (126 : Int)]) (e := 5) (fun _ => by kernel_rfl) fun x5 => ?_)
        refine RefL.pure rfl rfl (RanP.move rfl) ?_
        refine RefL.hv rfl rfl (Hv.call (mask_number_ref K a0 (2 : Int)) Try.call96 rfl rfl rfl fun x6 => ?_)
        refine RefL.hv rfl rfl (Hv.appS (i := Try.t5) rfl Try.underlying36 Try.underlying36 rfl rfl rfl rfl fun x7 => ?_)
        refine RefL.pure rfl rfl (RanP.assign rfl) ?_
        refine RefL.pure rfl rfl (RanP.assign rfl) ?_
        refine RefL.nil ?_
        refine RefE.next ?_
        refine RefC.ret ?_
        refine RefE.blockRet ?_
        refine RefE.thenRet ?_
        refine RefE.retV rfl ?_
        refine RefV.tmp rfl ?_
        refine RefV.tmp rfl ?_
        exact RefV.nil rfl
      · refine RefC.skip ?_
        refine RefE.blockNormal ?_
        refine RefE.next ?_
        refine RefC.seq ?_
        refine RefC.region ?_
        refine RefL.hv rfl rfl (Hv.buildSlice rfl (cs := [.int .u8 (127 : Int)]) (e := 5) (fun _ => by kernel_rfl) fun x8 => ?_)
        refine RefL.pure rfl rfl (RanP.move rfl) ?_
        refine RefL.hv rfl rfl (Hv.call (mask_number_ref K a0 (8 : Int)) Try.call96 rfl rfl rfl fun x9 => ?_)
        refine RefL.hv rfl rfl (Hv.appS (i := Try.t5) rfl Try.underlying36 Try.underlying36 rfl rfl rfl rfl fun x10 => ?_)
        refine RefL.pure rfl rfl (RanP.assign rfl) ?_
        refine RefL.pure rfl rfl (RanP.assign rfl) ?_
        refine RefL.nil ?_
        refine RefE.next ?_
        refine RefC.ret ?_
        refine RefE.retV rfl ?_
        refine RefV.tmp rfl ?_
        refine RefV.tmp rfl ?_
        exact RefV.nil rfl

def slices_Grow_byte (K : Nat) (a0 : Sl) (a1 : Int) : G (Sl) :=
  if (decide (a1 < (0 : Int))) = true then
    fail
  else
    lt (IntKind.wrap .i64 (a1 - (IntKind.wrap .i64 ((a0.c : Int) - (a0.n : Int))))) fun x1 =>
    bnd (
      if (decide ((0 : Int) < x1)) = true then
        slS a0 none (some (a0.c : Int)) none 1 fun x5 =>
        appZ 5 1 1 [.int .u8 (0 : Int)] x5 x1 fun x6 =>
        slS x6 none (some (a0.n : Int)) none 1 fun x7 =>
        ret (x7)
      else
        ret (a0)) fun (s8 : Sl) =>
    ret s8
set_option maxRecDepth 100000 in
theorem slices_Grow_byte_ref (K : Nat) (a0 : Sl) (a1 : Int) : Does Try.prog 97 [.slice a0.a a0.n a0.c, .int .i64 a1] (slices_Grow_byte K a0 a1) (fun r => .slice r.a r.n r.c) := by
  refine Does.of Try.func97 rfl rfl rfl ?_
  unfold slices_Grow_byte
  refine RefC.seq ?_
  refine RefC.region ?_
  refine RefL.pure rfl rfl (RanP.assign rfl) ?_
  refine RefL.nil ?_
  refine RefE.next ?_
  refine RefC.seq ?_
  refine RefC.seq ?_
  refine RefC.region ?_
  refine RefL.pure rfl rfl (RanP.move rfl) ?_
  refine RefL.pure rfl rfl (RanP.lss rfl rfl) ?_
  refine RefL.nil ?_
  refine RefE.next ?_
  refine RefC.cond rfl ?_ ?_
  · exact RefC.fails
  · refine RefC.skip ?_
    refine RefE.next ?_
    refine RefC.seq ?_
    refine RefC.seq ?_
    refine RefC.region ?_
    refine RefL.pure rfl rfl (RanP.move rfl) ?_
    refine RefL.pure rfl rfl (RanP.move rfl) ?_
    refine RefL.pure rfl rfl (RanP.capSl rfl Try.underlying36 rfl) ?_
    refine RefL.pure rfl rfl (RanP.move rfl) ?_
    refine RefL.pure rfl rfl (RanP.lenSl rfl Try.underlying36 rfl) ?_
    refine RefL.pure rfl rfl (RanP.sub rfl rfl) ?_
    refine RefL.pure rfl rfl (RanP.sub rfl rfl) ?_
    refine RefL.pure rfl rfl (RanP.assign rfl) ?_
    refine RefL.lt 1 (fun y => .int .i64 y) rfl fun x1 => ?_
    refine RefL.nil ?_
    refine RefE.next ?_
    refine RefC.seq ?_
    refine RefC.region ?_
    refine RefL.pure rfl rfl (RanP.move rfl) ?_
    refine RefL.pure rfl rfl (RanP.gtr rfl rfl) ?_
    refine RefL.nil ?_
    refine RefE.next ?_
    refine RefC.cut (enc := fun (s8 : Sl) => ([(0, .slice s8.a s8.n s8.c)] : Env)) ?_ ?_
    · refine RefC.cond rfl ?_ ?_
      · refine RefC.region ?_
        refine RefL.pure rfl rfl (RanP.move rfl) ?_
        refine RefL.pure rfl rfl (RanP.move rfl) ?_
        refine RefL.pure rfl rfl (RanP.capSl rfl Try.underlying36 rfl) ?_
        refine RefL.li rfl rfl (Lt.slS (kl := .i64) (kh := .i64) (km := .i64) Try.underlying36 Try.sizeOf5 rfl rfl rfl rfl (by simp) fun x5 => ?_)
        refine RefL.pure rfl rfl (RanP.move rfl) ?_
        refine RefL.hv rfl rfl (Hv.appZ (i := Try.t5) rfl Try.underlying36 Try.underlying3 rfl rfl rfl rfl rfl rfl fun x6 => ?_)
        refine RefL.pure rfl rfl (RanP.move rfl) ?_
        refine RefL.pure rfl rfl (RanP.lenSl rfl Try.underlying36 rfl) ?_
        refine RefL.li rfl rfl (Lt.slS (kl := .i64) (kh := .i64) (km := .i64) Try.underlying36 Try.sizeOf5 rfl rfl rfl rfl (by simp) fun x7 => ?_)
        refine RefL.pure rfl rfl (RanP.assign rfl) ?_
        refine RefL.nil ?_
        exact RefE.fin (s := (x7)) ⟨rfl, trivial⟩
      · refine RefC.skip ?_
        exact RefE.fin (s := (a0)) ⟨rfl, trivial⟩
    · intro s8
      refine RefE.next ?_
      refine RefC.seq ?_
      refine RefC.region ?_
      refine RefL.pure rfl rfl (RanP.move rfl) ?_
      refine RefL.pure rfl rfl (RanP.assign rfl) ?_
      refine RefL.nil ?_
      refine RefE.next ?_
      refine RefC.ret ?_
      refine RefE.retV rfl ?_
      refine RefV.tmp rfl ?_
      exact RefV.nil rfl

def slices_Concat_byte_l0 (K : Nat) (a0 : Sl) (again : (Int × Int) → G (Int)) (s13 : Int × Int) : G (Int) :=
  if (decide (s13.2 < (a0.n : Int))) = true then
    ixA a0 s13.2 1 fun x14 =>
    ldSl x14 fun x15 =>
    lt (IntKind.wrap .i64 (s13.1 + (x15.n : Int))) fun x16 =>
    if (decide (x16 < (0 : Int))) = true then
      fail
    else
      again (x16, (IntKind.wrap .i64 (s13.2 + (1 : Int))))
  else
    ret (s13.1)
def slices_Concat_byte_l1 (K : Nat) (a0 : Sl) (again : (Sl × Int) → G (Sl)) (s31 : Sl × Int) : G (Sl) :=
  if (decide (s31.2 < (a0.n : Int))) = true then
    ixA a0 s31.2 1 fun x32 =>
    ldSl x32 fun x33 =>
    appS 5 1 1 [.int .u8 (0 : Int)] s31.1 x33 fun x34 =>
    again (x34, (IntKind.wrap .i64 (s31.2 + (1 : Int))))
  else
    ret (s31.1)
def slices_Concat_byte (K : Nat) (a0 : Sl) : G (Sl) :=
  bnd (
    loopG (slices_Concat_byte_l0 K a0) K ((0 : Int), (0 : Int))) fun (s17 : Int) =>
  bnd (slices_Grow_byte K Sl.nil s17) fun x18 =>
  bnd (
    loopG (slices_Concat_byte_l1 K a0) K (x18, (0 : Int))) fun (s35 : Sl) =>
  ret s35
set_option maxRecDepth 100000 in
theorem slices_Concat_byte_ref (K : Nat) (a0 : Sl) : Does Try.prog 78 [.slice a0.a a0.n a0.c] (slices_Concat_byte K a0) (fun r => .slice r.a r.n r.c) := by
  refine Does.of Try.func78 rfl rfl rfl ?_
  unfold slices_Concat_byte
  refine RefC.seq ?_
  refine RefC.region ?_
  refine RefL.pure rfl rfl (RanP.assign rfl) ?_
  refine RefL.nil ?_
  refine RefE.next ?_
  refine RefC.seq ?_
  refine RefC.region ?_
  refine RefL.pure rfl rfl (RanP.assign rfl) ?_
  refine RefL.nil ?_
  refine RefE.next ?_
  refine RefC.seq ?_
  refine RefC.seq ?_
  refine RefC.region ?_
  refine RefL.pure rfl rfl (RanP.move rfl) ?_
  refine RefL.pure rfl rfl (RanP.lenSl rfl Try.underlying149 rfl) ?_
  refine RefL.pure rfl rfl (RanP.move rfl) ?_
  refine RefL.nil ?_
  refine RefE.next ?_
  refine RefC.cut (enc := fun (s17 : Int) => ([(3, .int .i64 s17), (0, .slice a0.a a0.n a0.c)] : Env)) ?_ ?_
  · refine RefC.block ?_
    refine RefC.loopW (enc := fun (s13 : Int × Int) => ([(3, .int .i64 s13.1), (11, .int .i64 s13.2), (0, .slice a0.a a0.n a0.c), (9, .slice a0.a a0.n a0.c), (10, .int .i64 (a0.n : Int))] : Env)) ⟨rfl, rfl, rfl, rfl, rfl, trivial⟩ ?_ _
    intro again k ih s13
    unfold slices_Concat_byte_l0
    refine RefC.seq ?_
    refine RefC.region ?_
    refine RefL.pure rfl rfl (RanP.lss rfl rfl) ?_
    refine RefL.nil ?_
    refine RefE.next ?_
    refine RefC.seq ?_
    refine RefC.cond rfl ?_ ?_
    · refine RefC.skip ?_
      refine RefE.next ?_
      refine RefC.seq ?_
      refine RefC.block ?_
      refine RefC.seq ?_
      refine RefC.region ?_
      refine RefL.li rfl rfl (Lt.ixA Try.underlying149 Try.sizeOf36 rfl rfl fun x14 => ?_)
      refine RefL.li rfl rfl (Lt.ldSl Try.isAgg36 rfl fun x15 => ?_)
      refine RefL.pure rfl rfl (RanP.assign rfl) ?_
      refine RefL.nil ?_
      refine RefE.next ?_
      refine RefC.seq ?_
      refine RefC.region ?_
      refine RefL.pure rfl rfl (RanP.move rfl) ?_
      refine RefL.pure rfl rfl (RanP.move rfl) ?_
      refine RefL.pure rfl rfl (RanP.lenSl rfl Try.underlying36 rfl) ?_
      refine RefL.pure rfl rfl (RanP.add rfl rfl) ?_
      refine RefL.pure rfl rfl (RanP.assign rfl) ?_
      refine RefL.lt 3 (fun y => .int .i64 y) rfl fun x16 => ?_
      refine RefL.nil ?_
      refine RefE.next ?_
      refine RefC.seq ?_
      refine RefC.region ?_
      refine RefL.pure rfl rfl (RanP.move rfl) ?_
      refine RefL.pure rfl rfl (RanP.lss rfl rfl) ?_
      refine RefL.nil ?_
      refine RefE.next ?_
      refine RefC.cond rfl ?_ ?_
      · exact RefC.fails
      · refine RefC.skip ?_
        refine RefE.blockNormal ?_
        refine RefE.next ?_
        refine RefC.region ?_
        refine RefL.pure rfl rfl (RanP.add rfl rfl) ?_
        refine RefL.pure rfl rfl (RanP.move rfl) ?_
        refine RefL.nil ?_
        exact RefE.again (ih (x16, (IntKind.wrap .i64 (s13.2 + (1 : Int))))) ⟨rfl, rfl, rfl, rfl, rfl, trivial⟩
    · refine RefC.exit ?_
      refine RefE.thenExit ?_
      refine RefE.roundExit ?_
      refine RefE.blockExit ?_
      exact RefE.fin (s := (s13.1)) ⟨rfl, rfl, trivial⟩
  · intro s17
    refine RefE.next ?_
    refine RefC.seq ?_
    refine RefC.region ?_
    refine RefL.pure rfl rfl (RanP.move rfl) ?_
    refine RefL.hv rfl rfl (Hv.call (slices_Grow_byte_ref K Sl.nil s17) Try.call97 rfl rfl rfl fun x18 => ?_)
    refine RefL.pure rfl rfl (RanP.assign rfl) ?_
    refine RefL.nil ?_
    refine RefE.next ?_
    refine RefC.seq ?_
    refine RefC.seq ?_
    refine RefC.region ?_
    refine RefL.pure rfl rfl (RanP.move rfl) ?_
    refine RefL.pure rfl rfl (RanP.lenSl rfl Try.underlying149 rfl) ?_
    refine RefL.pure rfl rfl (RanP.move rfl) ?_
    refine RefL.nil ?_
    refine RefE.next ?_
    refine RefC.cut (enc := fun (s35 : Sl) => ([(6, .slice s35.a s35.n s35.c)] : Env)) ?_ ?_
    · refine RefC.block ?_
      refine RefC.loopW (enc := fun (s31 : Sl × Int) => ([(6, .slice s31.1.a s31.1.n s31.1.c), (27, .int .i64 s31.2), (25, .slice a0.a a0.n a0.c), (26, .int .i64 (a0.n : Int))] : Env)) ⟨rfl, rfl, rfl, rfl, trivial⟩ ?_ _
      intro again k ih s31
      unfold slices_Concat_byte_l1
      refine RefC.seq ?_
      refine RefC.region ?_
      refine RefL.pure rfl rfl (RanP.lss rfl rfl) ?_
      refine RefL.nil ?_
      refine RefE.next ?_
      refine RefC.seq ?_
      refine RefC.cond rfl ?_ ?_
      · refine RefC.skip ?_
        refine RefE.next ?_
        refine RefC.seq ?_
        refine RefC.block ?_
        refine RefC.seq ?_
        refine RefC.region ?_
        refine RefL.li rfl rfl (Lt.ixA Try.underlying149 Try.sizeOf36 rfl rfl fun x32 => ?_)
        refine RefL.li rfl rfl (Lt.ldSl Try.isAgg36 rfl fun x33 => ?_)
        refine RefL.pure rfl rfl (RanP.assign rfl) ?_
        refine RefL.nil ?_
        refine RefE.next ?_
        refine RefC.region ?_
        refine RefL.pure rfl rfl (RanP.move rfl) ?_
        refine RefL.pure rfl rfl (RanP.move rfl) ?_
        refine RefL.hv rfl rfl (Hv.appS (i := Try.t5) rfl Try.underlying36 Try.underlying36 rfl rfl rfl rfl fun x34 => ?_)
        refine RefL.pure rfl rfl (RanP.assign rfl) ?_
        refine RefL.nil ?_
        refine RefE.blockNormal ?_
        refine RefE.next ?_
        refine RefC.region ?_
        refine RefL.pure rfl rfl (RanP.add rfl rfl) ?_
        refine RefL.pure rfl rfl (RanP.move rfl) ?_
        refine RefL.nil ?_
        exact RefE.again (ih (x34, (IntKind.wrap .i64 (s31.2 + (1 : Int))))) ⟨rfl, rfl, rfl, rfl, trivial⟩
      · refine RefC.exit ?_
        refine RefE.thenExit ?_
        refine RefE.roundExit ?_
        refine RefE.blockExit ?_
        exact RefE.fin (s := (s31.1)) ⟨rfl, trivial⟩
    · intro s35
      refine RefE.next ?_
      refine RefC.seq ?_
      refine RefC.region ?_
      refine RefL.pure rfl rfl (RanP.move rfl) ?_
      refine RefL.pure rfl rfl (RanP.assign rfl) ?_
      refine RefL.nil ?_
      refine RefE.next ?_
      refine RefC.ret ?_
      refine RefE.retV rfl ?_
      refine RefV.tmp rfl ?_
      exact RefV.nil rfl

end Go.Proofs.Ytjdnjlnfcbaokaa

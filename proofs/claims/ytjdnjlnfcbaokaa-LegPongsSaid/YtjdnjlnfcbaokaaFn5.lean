/-
  Go functions as programs over the world, and that the model's code does what they say. Printed by gen.py (own work).
-/
import Derived.Test.YtjdnjlnfcbaokaaFn4
set_option linter.unusedVariables false
set_option linter.unusedSimpArgs false
namespace Go.Proofs.Ytjdnjlnfcbaokaa
open Go Go.Lg

def frame_Put (K : Nat) (a0 : Tapi_Frame) : G (Sl × Int) :=
  new (Agg.cells a0) 59 fun x1 =>
  ldG (α := Tapi_Frame) x1 fun x2 =>
  bnd (frame_Check K x2) fun x3 =>
  if (x3 != (0 : Int)) = true then
    ret (Sl.nil, x3)
  else
    ldI .i64 (x1.add 1) fun x4 =>
    lt (IntKind.wrap .u8 x4) fun x5 =>
    ldB (x1.add 0) fun x6 =>
    bnd (
      if x6 = true then
        lt (orI .u8 x5 (128 : Int)) fun x8 =>
        ret (x8)
      else
        ret (x5)) fun (s9 : Int) =>
    ldS (x1.add 7) fun x10 =>
    bnd (mask_Put K (IntKind.wrap .u64 (x10.size : Int))) fun x11 =>
    ldS (x1.add 7) fun x12 =>
    bytesOf 5 x12 fun x13 =>
    ldB (x1.add 2) fun x14 =>
    bnd (
      if x14 = true then
        ixA x11.1 (0 : Int) 1 fun x21 =>
        ldI .u8 x21 fun x22 =>
        ixA x11.1 (0 : Int) 1 fun x23 =>
        st x23 (.int .u8 (orI .u8 x22 (128 : Int))) <|
        drw <|
        slA (x1.add 3) 4 none none 1 fun x24 =>
        ldG (α := A4u8) (x1.add 3) fun x25 =>
        bnd (mask_Apply K x25 (0 : Int) x13) fun x26 =>
        ret (x26, x24)
      else
        ret (x13, Sl.nil)) fun (s27 : Sl × Sl) =>
    new [.int .u8 s9] 5 fun x28 =>
    new [.slice (Sl.mk (some x28) 1 1).a (Sl.mk (some x28) 1 1).n (Sl.mk (some x28) 1 1).c, .slice x11.1.a x11.1.n x11.1.c, .slice s27.2.a s27.2.n s27.2.c, .slice s27.1.a s27.1.n s27.1.c] 36 fun x29 =>
    bnd (slices_Concat_byte K (Sl.mk (some x29) 4 4)) fun x30 =>
    ret (x30, (0 : Int))
set_option maxRecDepth 100000 in
theorem frame_Put_ref (K : Nat) (a0 : Tapi_Frame) : Does Try.prog 56 [.agg (Agg.cells a0).toArray] (frame_Put K a0) (fun r => .tuple #[.slice r.1.a r.1.n r.1.c, .int .i64 r.2]) := by
  refine Does.of Try.func56 rfl rfl rfl ?_
  unfold frame_Put
  refine RefC.seq ?_
  refine RefC.region ?_
  refine RefL.hv rfl rfl (Hv.box rfl rfl fun x1 => ?_)
  refine RefL.pure rfl rfl (RanP.assign rfl) ?_
  refine RefL.pure rfl rfl (RanP.assign rfl) ?_
  refine RefL.nil ?_
  refine RefE.next ?_
  refine RefC.seq ?_
  refine RefC.seq ?_
  refine RefC.region ?_
  refine RefL.li rfl rfl (Lt.ldG (τ := Tapi_Frame) Try.isAgg59 Try.sizeOf59 rfl fun x2 => ?_)
  refine RefL.hv rfl rfl (Hv.call (frame_Check_ref K x2) Try.call65 rfl rfl rfl fun x3 => ?_)
  refine RefL.pure rfl rfl (RanP.assign rfl) ?_
  refine RefL.nil ?_
  refine RefE.next ?_
  refine RefC.seq ?_
  refine RefC.region ?_
  refine RefL.pure rfl rfl (RanP.move rfl) ?_
  refine RefL.pure rfl rfl (RanP.neq rfl rfl) ?_
  refine RefL.nil ?_
  refine RefE.next ?_
  refine RefC.cond rfl ?_ ?_
  · refine RefC.seq ?_
    refine RefC.region ?_
    refine RefL.pure rfl rfl (RanP.move rfl) ?_
    refine RefL.pure rfl rfl (RanP.assign rfl) ?_
    refine RefL.pure rfl rfl (RanP.assign rfl) ?_
    refine RefL.nil ?_
    refine RefE.next ?_
    refine RefC.ret ?_
    refine RefE.thenRet ?_
    refine RefE.retV rfl ?_
    refine RefV.tmp rfl ?_
    refine RefV.tmp rfl ?_
    exact RefV.nil rfl
  · refine RefC.skip ?_
    refine RefE.next ?_
    refine RefC.seq ?_
    refine RefC.region ?_
    refine RefL.pure rfl rfl (RanP.fieldAddr fa_59_1 rfl) ?_
    refine RefL.li rfl rfl (Lt.ldI Try.isAgg3 rfl fun x4 => ?_)
    refine RefL.pure rfl rfl (RanP.conv Try.underlying3 Try.underlying5 rfl) ?_
    refine RefL.pure rfl rfl (RanP.assign rfl) ?_
    refine RefL.lt 5 (fun y => .int .u8 y) rfl fun x5 => ?_
    refine RefL.nil ?_
    refine RefE.next ?_
    refine RefC.seq ?_
    refine RefC.seq ?_
    refine RefC.region ?_
    refine RefL.pure rfl rfl (RanP.fieldAddr fa_59_0 rfl) ?_
    refine RefL.li rfl rfl (Lt.ldB Try.isAgg4 rfl fun x6 => ?_)
    refine RefL.nil ?_
    refine RefE.next ?_
    refine RefC.cut (enc := fun (s9 : Int) => ([(5, .int .u8 s9), (1, .pointer (some x1))] : Env)) ?_ ?_
    · refine RefC.cond rfl ?_ ?_
      · refine RefC.region ?_
        refine RefL.pure rfl rfl (RanP.move rfl) ?_
        refine RefL.pure rfl rfl (RanP.or rfl rfl) ?_
        refine RefL.pure rfl rfl (RanP.assign rfl) ?_
        refine RefL.lt 5 (fun y => .int .u8 y) rfl fun x8 => ?_
        refine RefL.nil ?_
        exact RefE.fin (s := (x8)) ⟨rfl, rfl, trivial⟩
      · refine RefC.skip ?_
        exact RefE.fin (s := (x5)) ⟨rfl, rfl, trivial⟩
    · intro s9
      refine RefE.next ?_
      refine RefC.seq ?_
      refine RefC.region ?_
      refine RefL.pure rfl rfl (RanP.fieldAddr fa_59_4 rfl) ?_
      refine RefL.li rfl rfl (Lt.ldS Try.isAgg9 rfl fun x10 => ?_)
      refine RefL.pure rfl rfl (RanP.lenS rfl Try.underlying9 rfl) ?_
      refine RefL.pure rfl rfl (RanP.conv Try.underlying3 Try.underlying133 rfl) ?_
      refine RefL.hv rfl rfl (Hv.call (mask_Put_ref K (IntKind.wrap .u64 (x10.size : Int))) Try.call76 rfl rfl rfl fun x11 => ?_)
      refine RefL.pure rfl rfl (RanP.move rfl) ?_
      refine RefL.pure rfl rfl (RanP.extract rfl rfl) ?_
      refine RefL.pure rfl rfl (RanP.extract rfl rfl) ?_
      refine RefL.pure rfl rfl (RanP.assign rfl) ?_
      refine RefL.pure rfl rfl (RanP.assign rfl) ?_
      refine RefL.nil ?_
      refine RefE.next ?_
      refine RefC.seq ?_
      refine RefC.region ?_
      refine RefL.pure rfl rfl (RanP.fieldAddr fa_59_4 rfl) ?_
      refine RefL.li rfl rfl (Lt.ldS Try.isAgg9 rfl fun x12 => ?_)
      refine RefL.hv rfl rfl (Hv.bytesOf Try.underlying9 Try.underlying36 Try.underlying5 rfl fun x13 => ?_)
      refine RefL.pure rfl rfl (RanP.assign rfl) ?_
      refine RefL.nil ?_
      refine RefE.next ?_
      refine RefC.seq ?_
      refine RefC.region ?_
      refine RefL.pure rfl rfl (RanP.assign rfl) ?_
      refine RefL.nil ?_
      refine RefE.next ?_
      refine RefC.seq ?_
      refine RefC.seq ?_
      refine RefC.region ?_
      refine RefL.pure rfl rfl (RanP.fieldAddr fa_59_2 rfl) ?_
      refine RefL.li rfl rfl (Lt.ldB Try.isAgg4 rfl fun x14 => ?_)
      refine RefL.nil ?_
      refine RefE.next ?_
      refine RefC.cut (enc := fun (s27 : Sl × Sl) => ([(8, .slice s27.1.a s27.1.n s27.1.c), (9, .slice s27.2.a s27.2.n s27.2.c), (5, .int .u8 s9), (6, .slice x11.1.a x11.1.n x11.1.c)] : Env)) ?_ ?_
      · refine RefC.cond rfl ?_ ?_
        · refine RefC.seq ?_
          refine RefC.region ?_
          refine RefL.pure rfl rfl (RanP.move rfl) ?_
          refine RefL.li rfl rfl (Lt.ixA Try.underlying36 Try.sizeOf5 rfl rfl fun x21 => ?_)
          refine RefL.li rfl rfl (Lt.ldI Try.isAgg5 rfl fun x22 => ?_)
          refine RefL.pure rfl rfl (RanP.or rfl rfl) ?_
          refine RefL.li rfl rfl (Lt.ixA Try.underlying36 Try.sizeOf5 rfl rfl fun x23 => ?_)
          refine RefL.hv rfl rfl (Hv.st Try.sizeOf5 rfl rfl rfl ?_)
          refine RefL.nil ?_
          refine RefE.next ?_
          refine RefC.draw mixed [0, 1, 0, 4, 0, 28, 63, 127] [.lp 0, .lp 1, .lp 2, .li 3, .lp 4, .hv 5, .lp 6, .lp 7] (by kernel_rfl) ?_
          refine RefD.pure (at_ rfl) rfl (RanP.fieldAddr fa_59_3 rfl) ?_
          refine RefD.any (at_ rfl) rfl (Lt.slA (kl := .i64) (kh := .i64) Try.underlying57 Try.sizeOf5 rfl rfl rfl fun x24 => ?_)
          refine RefD.pure (at_ rfl) rfl (RanP.fieldAddr fa_59_3 rfl) ?_
          refine RefD.li0 (at_ rfl) rfl (Lt.ldG (τ := A4u8) Try.isAgg57 Try.sizeOf57 rfl fun x25 => ?_)
          refine RefD.pure (at_ rfl) rfl (RanP.move rfl) ?_
          refine RefD.hv (at_ rfl) rfl (Hv.call (mask_Apply_ref K x25 (0 : Int) x13) Try.call77 rfl rfl rfl fun x26 => ?_)
          refine RefD.pure (at_ rfl) rfl (RanP.assign rfl) ?_
          refine RefD.pure (at_ rfl) rfl (RanP.assign rfl) ?_
          refine RefD.nil ?_
          exact RefE.fin (s := (x26, x24)) ⟨rfl, rfl, rfl, rfl, trivial⟩
        · refine RefC.skip ?_
          exact RefE.fin (s := (x13, Sl.nil)) ⟨rfl, rfl, rfl, rfl, trivial⟩
      · intro s27
        refine RefE.next ?_
        refine RefC.seq ?_
        refine RefC.region ?_
        refine RefL.pure rfl rfl (RanP.move rfl) ?_
        refine RefL.hv rfl rfl (Hv.buildSlice rfl (cs := [.int .u8 s9]) (e := 5) (fun _ => by kernel_rfl) fun x28 => ?_)
        refine RefL.pure rfl rfl (RanP.move rfl) ?_
        refine RefL.pure rfl rfl (RanP.move rfl) ?_
        refine RefL.pure rfl rfl (RanP.move rfl) ?_
        refine RefL.hv rfl rfl (Hv.buildSlice rfl (cs := [.slice (Sl.mk (some x28) 1 1).a (Sl.mk (some x28) 1 1).n (Sl.mk (some x28) 1 1).c, .slice x11.1.a x11.1.n x11.1.c, .slice s27.2.a s27.2.n s27.2.c, .slice s27.1.a s27.1.n s27.1.c]) (e := 36) (fun _ => by kernel_rfl) fun x29 => ?_)
        refine RefL.hv rfl rfl (Hv.call (slices_Concat_byte_ref K (Sl.mk (some x29) 4 4)) Try.call78 rfl rfl rfl fun x30 => ?_)
        refine RefL.pure rfl rfl (RanP.assign rfl) ?_
        refine RefL.pure rfl rfl (RanP.assign rfl) ?_
        refine RefL.nil ?_
        refine RefE.next ?_
        refine RefC.ret ?_
        refine RefE.retV rfl ?_
        refine RefV.tmp rfl ?_
        refine RefV.tmp rfl ?_
        exact RefV.nil rfl

def leg_Leg_move_l0 (K : Nat) (a0 : Option Addr) (again : Unit → G (Unit)) (s9 : Unit) : G (Unit) :=
  nn a0 fun x10 =>
  bnd (leg_output_push K (some (x10.add 14))) fun x11 =>
  if x11 = true then
    bnd (leg_Leg_next K a0) fun x12 =>
    new [.bool false, .int .i64 (0 : Int), .bool false, .int .u8 (0 : Int), .int .u8 (0 : Int), .int .u8 (0 : Int), .int .u8 (0 : Int), .string (ByteArray.mk #[])] 59 fun x13 =>
    st x13 (.agg (Agg.cells x12.1).toArray) <|
    if (!x12.2) = true then
      ret ()
    else
      ldG (α := Tapi_Frame) x13 fun x14 =>
      bnd (frame_Put K x14) fun x15 =>
      nn a0 fun x16 =>
      st ((x16.add 14).add 1) (.slice x15.1.a x15.1.n x15.1.c) <|
      again ()
  else
    ret ()
def leg_Leg_move (K : Nat) (a0 : Option Addr) : G (Unit) :=
  loopG (leg_Leg_move_l0 K a0) K ()
set_option maxRecDepth 100000 in
theorem leg_Leg_move_ref (K : Nat) (a0 : Option Addr) : Does Try.prog 35 [.pointer a0] (leg_Leg_move K a0) (fun _ => .tuple #[]) := by
  refine Does.of Try.func35 rfl rfl rfl ?_
  unfold leg_Leg_move
  refine RefC.block ?_
  refine RefC.loopW (enc := fun (s9 : Unit) => ([(0, .pointer a0)] : Env)) ⟨rfl, trivial⟩ ?_ _
  intro again k ih s9
  unfold leg_Leg_move_l0
  refine RefC.seq ?_
  refine RefC.seq ?_
  refine RefC.region ?_
  refine RefL.pure rfl rfl (RanP.move rfl) ?_
  refine RefL.li rfl rfl (Lt.nn rfl fun x10 => ?_)
  refine RefL.pure rfl rfl (RanP.fieldAddr fa_71_3 rfl) ?_
  refine RefL.hv rfl rfl (Hv.call (leg_output_push_ref K (some (x10.add 14))) Try.call54 rfl rfl rfl fun x11 => ?_)
  refine RefL.nil ?_
  refine RefE.next ?_
  refine RefC.cond rfl ?_ ?_
  · refine RefC.skip ?_
    refine RefE.next ?_
    refine RefC.block ?_
    refine RefC.seq ?_
    refine RefC.region ?_
    refine RefL.pure rfl rfl (RanP.move rfl) ?_
    refine RefL.hv rfl rfl (Hv.call (leg_Leg_next_ref K a0) Try.call55 rfl rfl rfl fun x12 => ?_)
    refine RefL.pure rfl rfl (RanP.move rfl) ?_
    refine RefL.pure rfl rfl (RanP.extract rfl rfl) ?_
    refine RefL.pure rfl rfl (RanP.extract rfl rfl) ?_
    refine RefL.hv rfl rfl (Hv.newZ Try.zeroValue59 rfl fun x13 => ?_)
    refine RefL.hv rfl rfl (Hv.st Try.sizeOf59 rfl rfl rfl ?_)
    refine RefL.pure rfl rfl (RanP.assign rfl) ?_
    refine RefL.nil ?_
    refine RefE.next ?_
    refine RefC.seq ?_
    refine RefC.seq ?_
    refine RefC.region ?_
    refine RefL.pure rfl rfl (RanP.move rfl) ?_
    refine RefL.pure rfl rfl (RanP.not rfl) ?_
    refine RefL.nil ?_
    refine RefE.next ?_
    refine RefC.cond rfl ?_ ?_
    · refine RefC.ret ?_
      refine RefE.thenRet ?_
      refine RefE.blockRet ?_
      refine RefE.roundRet ?_
      refine RefE.blockRet ?_
      refine RefE.retV rfl ?_
      exact RefV.nil rfl
    · refine RefC.skip ?_
      refine RefE.next ?_
      refine RefC.region ?_
      refine RefL.pure rfl rfl (RanP.move rfl) ?_
      refine RefL.li rfl rfl (Lt.ldG (τ := Tapi_Frame) Try.isAgg59 Try.sizeOf59 rfl fun x14 => ?_)
      refine RefL.hv rfl rfl (Hv.call (frame_Put_ref K x14) Try.call56 rfl rfl rfl fun x15 => ?_)
      refine RefL.pure rfl rfl (RanP.move rfl) ?_
      refine RefL.pure rfl rfl (RanP.extract rfl rfl) ?_
      refine RefL.pure rfl rfl (RanP.extract rfl rfl) ?_
      refine RefL.li rfl rfl (Lt.nn rfl fun x16 => ?_)
      refine RefL.pure rfl rfl (RanP.fieldAddr fa_71_3 rfl) ?_
      refine RefL.pure rfl rfl (RanP.fieldAddr fa_69_1 rfl) ?_
      refine RefL.hv rfl rfl (Hv.st Try.sizeOf36 rfl rfl rfl ?_)
      refine RefL.nil ?_
      refine RefE.blockNormal ?_
      exact RefE.again (ih ()) ⟨rfl, trivial⟩
  · refine RefC.exit ?_
    refine RefE.thenExit ?_
    refine RefE.roundExit ?_
    refine RefE.blockExit ?_
    refine RefE.endV rfl ?_
    exact RefV.nil rfl

def leg_Leg_Close (K : Nat) (a0 : Option Addr) (a1 : Int) (a2 : ByteArray) : G (Bool) :=
  bnd (close_Put K a1 a2) fun x1 =>
  nn a0 fun x2 =>
  ldB (x2.add 20) fun x3 =>
  bnd (
    if x3 = true then
      ret true
    else
      ret (x1.2 != (0 : Int))) fun (x4 : Bool) =>
  if x4 = true then
    ret false
  else
    nn a0 fun x5 =>
    st (x5.add 20) (.bool true) <|
    nn a0 fun x6 =>
    st (x6.add 17) (.slice Sl.nil.a Sl.nil.n Sl.nil.c) <|
    nn a0 fun x7 =>
    ldSl (x7.add 16) fun x8 =>
    new (Agg.cells (Tapi_Frame.mk true (8 : Int) false (0 : Int) (0 : Int) (0 : Int) (0 : Int) x1.1)) 59 fun x9 =>
    appS 59 8 40 [.bool false, .int .i64 (0 : Int), .bool false, .int .u8 (0 : Int), .int .u8 (0 : Int), .int .u8 (0 : Int), .int .u8 (0 : Int), .string (ByteArray.mk #[])] x8 (Sl.mk (some x9) 1 1) fun x10 =>
    nn a0 fun x11 =>
    st (x11.add 16) (.slice x10.a x10.n x10.c) <|
    bnd (leg_Leg_move K a0) fun x12 =>
    ret true
set_option maxRecDepth 100000 in
theorem leg_Leg_Close_ref (K : Nat) (a0 : Option Addr) (a1 : Int) (a2 : ByteArray) : Does Try.prog 20 [.pointer a0, .int .i64 a1, .string a2] (leg_Leg_Close K a0 a1 a2) (fun r => .bool r) := by
  refine Does.of Try.func20 rfl rfl rfl ?_
  unfold leg_Leg_Close
  refine RefC.seq ?_
  refine RefC.region ?_
  refine RefL.pure rfl rfl (RanP.assign rfl) ?_
  refine RefL.nil ?_
  refine RefE.next ?_
  refine RefC.seq ?_
  refine RefC.region ?_
  refine RefL.pure rfl rfl (RanP.move rfl) ?_
  refine RefL.pure rfl rfl (RanP.move rfl) ?_
  refine RefL.hv rfl rfl (Hv.call (close_Put_ref K a1 a2) Try.call36 rfl rfl rfl fun x1 => ?_)
  refine RefL.pure rfl rfl (RanP.move rfl) ?_
  refine RefL.pure rfl rfl (RanP.extract rfl rfl) ?_
  refine RefL.pure rfl rfl (RanP.extract rfl rfl) ?_
  refine RefL.pure rfl rfl (RanP.assign rfl) ?_
  refine RefL.pure rfl rfl (RanP.assign rfl) ?_
  refine RefL.nil ?_
  refine RefE.next ?_
  refine RefC.seq ?_
  refine RefC.seq ?_
  refine RefC.region ?_
  refine RefL.pure rfl rfl (RanP.move rfl) ?_
  refine RefL.li rfl rfl (Lt.nn rfl fun x2 => ?_)
  refine RefL.pure rfl rfl (RanP.fieldAddr fa_71_8 rfl) ?_
  refine RefL.li rfl rfl (Lt.ldB Try.isAgg4 rfl fun x3 => ?_)
  refine RefL.pure rfl rfl (RanP.move rfl) ?_
  refine RefL.cut (enc := fun (x4 : Bool) => ([(22, .bool x4), (0, .pointer a0), (7, .string x1.1)] : Env)) 3 ?_ ?_
  · refine RefL.ite (s := 19) rfl ?_ ?_
    · refine RefL.skip rfl rfl ?_
      refine RefL.skip rfl rfl ?_
      refine RefL.pure rfl rfl (RanP.pickT rfl rfl) ?_
      refine RefL.nil ?_
      exact RefE.fin (s := true) ⟨rfl, rfl, rfl, trivial⟩
    · refine RefL.pure rfl rfl (RanP.move rfl) ?_
      refine RefL.pure rfl rfl (RanP.neq rfl rfl) ?_
      refine RefL.pure rfl rfl (RanP.pickF rfl rfl) ?_
      refine RefL.nil ?_
      exact RefE.fin (s := (x1.2 != (0 : Int))) ⟨rfl, rfl, rfl, trivial⟩
  · intro x4
    refine RefL.nil ?_
    refine RefE.next ?_
    refine RefC.cond rfl ?_ ?_
    · refine RefC.seq ?_
      refine RefC.region ?_
      refine RefL.pure rfl rfl (RanP.assign rfl) ?_
      refine RefL.nil ?_
      refine RefE.next ?_
      refine RefC.ret ?_
      refine RefE.thenRet ?_
      refine RefE.retV rfl ?_
      refine RefV.tmp rfl ?_
      exact RefV.nil rfl
    · refine RefC.skip ?_
      refine RefE.next ?_
      refine RefC.seq ?_
      refine RefC.region ?_
      refine RefL.pure rfl rfl (RanP.move rfl) ?_
      refine RefL.pure rfl rfl (RanP.move rfl) ?_
      refine RefL.li rfl rfl (Lt.nn rfl fun x5 => ?_)
      refine RefL.pure rfl rfl (RanP.fieldAddr fa_71_8 rfl) ?_
      refine RefL.hv rfl rfl (Hv.st Try.sizeOf4 rfl rfl rfl ?_)
      refine RefL.li rfl rfl (Lt.nn rfl fun x6 => ?_)
      refine RefL.pure rfl rfl (RanP.fieldAddr fa_71_5 rfl) ?_
      refine RefL.hv rfl rfl (Hv.st Try.sizeOf54 rfl rfl rfl ?_)
      refine RefL.nil ?_
      refine RefE.next ?_
      refine RefC.seq ?_
      refine RefC.region ?_
      refine RefL.pure rfl rfl (RanP.move rfl) ?_
      refine RefL.pure rfl rfl (RanP.move rfl) ?_
      refine RefL.li rfl rfl (Lt.nn rfl fun x7 => ?_)
      refine RefL.pure rfl rfl (RanP.fieldAddr fa_71_4 rfl) ?_
      refine RefL.li rfl rfl (Lt.ldSl Try.isAgg54 rfl fun x8 => ?_)
      refine RefL.pure rfl rfl (RanP.move rfl) ?_
      refine RefL.pure rfl rfl (RanP.build rfl (v := .agg (Agg.cells (Tapi_Frame.mk true (8 : Int) false (0 : Int) (0 : Int) (0 : Int) (0 : Int) x1.1)).toArray) (fun _ => by kernel_rfl)) ?_
      refine RefL.hv rfl rfl (Hv.buildSlice rfl (cs := (Agg.cells (Tapi_Frame.mk true (8 : Int) false (0 : Int) (0 : Int) (0 : Int) (0 : Int) x1.1))) (e := 59) (fun _ => by kernel_rfl) fun x9 => ?_)
      refine RefL.hv rfl rfl (Hv.appS (i := Try.t59) rfl Try.underlying54 Try.underlying54 rfl rfl rfl rfl fun x10 => ?_)
      refine RefL.li rfl rfl (Lt.nn rfl fun x11 => ?_)
      refine RefL.pure rfl rfl (RanP.fieldAddr fa_71_4 rfl) ?_
      refine RefL.hv rfl rfl (Hv.st Try.sizeOf54 rfl rfl rfl ?_)
      refine RefL.nil ?_
      refine RefE.next ?_
      refine RefC.seq ?_
      refine RefC.region ?_
      refine RefL.pure rfl rfl (RanP.move rfl) ?_
      refine RefL.hv rfl rfl (Hv.call (leg_Leg_move_ref K a0) Try.call35 rfl rfl rfl fun x12 => ?_)
      refine RefL.nil ?_
      refine RefE.next ?_
      refine RefC.seq ?_
      refine RefC.region ?_
      refine RefL.pure rfl rfl (RanP.assign rfl) ?_
      refine RefL.nil ?_
      refine RefE.next ?_
      refine RefC.ret ?_
      refine RefE.retV rfl ?_
      refine RefV.tmp rfl ?_
      exact RefV.nil rfl

def leg_Leg_fail (K : Nat) (a0 : Option Addr) (a1 : Int) : G (Unit) :=
  nn a0 fun x1 =>
  st (x1.add 22) (.int .i64 a1) <|
  bnd (close_Code K a1) fun x2 =>
  bnd (leg_Leg_Close K a0 x2 (ByteArray.mk #[])) fun x3 =>
  ret ()
set_option maxRecDepth 100000 in
theorem leg_Leg_fail_ref (K : Nat) (a0 : Option Addr) (a1 : Int) : Does Try.prog 33 [.pointer a0, .int .i64 a1] (leg_Leg_fail K a0 a1) (fun _ => .tuple #[]) := by
  refine Does.of Try.func33 rfl rfl rfl ?_
  unfold leg_Leg_fail
  refine RefC.seq ?_
  refine RefC.region ?_
  refine RefL.pure rfl rfl (RanP.move rfl) ?_
  refine RefL.pure rfl rfl (RanP.move rfl) ?_
  refine RefL.li rfl rfl (Lt.nn rfl fun x1 => ?_)
  refine RefL.pure rfl rfl (RanP.fieldAddr fa_71_10 rfl) ?_
  refine RefL.hv rfl rfl (Hv.st Try.sizeOf28 rfl rfl rfl ?_)
  refine RefL.nil ?_
  refine RefE.next ?_
  refine RefC.region ?_
  refine RefL.pure rfl rfl (RanP.move rfl) ?_
  refine RefL.pure rfl rfl (RanP.move rfl) ?_
  refine RefL.hv rfl rfl (Hv.call (close_Code_ref K a1) Try.call52 rfl rfl rfl fun x2 => ?_)
  refine RefL.hv rfl rfl (Hv.call (leg_Leg_Close_ref K a0 x2 (ByteArray.mk #[])) Try.call20 rfl rfl rfl fun x3 => ?_)
  refine RefL.nil ?_
  refine RefE.endV rfl ?_
  exact RefV.nil rfl

def leg_Leg_pong_1 (K : Nat) (a0 : Tapi_Frame) : G (Bool) :=
  new (Agg.cells a0) 59 fun x1 =>
  ldI .i64 (x1.add 1) fun x2 =>
  lt (x2 == (10 : Int)) fun x3 =>
  ret x3
set_option maxRecDepth 100000 in
theorem leg_Leg_pong_1_ref (K : Nat) (a0 : Tapi_Frame) : Does Try.prog 71 [.agg (Agg.cells a0).toArray] (leg_Leg_pong_1 K a0) (fun r => .bool r) := by
  refine Does.of Try.func71 rfl rfl rfl ?_
  unfold leg_Leg_pong_1
  refine RefC.seq ?_
  refine RefC.region ?_
  refine RefL.hv rfl rfl (Hv.box rfl rfl fun x1 => ?_)
  refine RefL.pure rfl rfl (RanP.assign rfl) ?_
  refine RefL.nil ?_
  refine RefE.next ?_
  refine RefC.seq ?_
  refine RefC.region ?_
  refine RefL.pure rfl rfl (RanP.fieldAddr fa_59_1 rfl) ?_
  refine RefL.li rfl rfl (Lt.ldI Try.isAgg3 rfl fun x2 => ?_)
  refine RefL.pure rfl rfl (RanP.eql rfl rfl) ?_
  refine RefL.pure rfl rfl (RanP.assign rfl) ?_
  refine RefL.lt 2 (fun y => .bool y) rfl fun x3 => ?_
  refine RefL.nil ?_
  refine RefE.next ?_
  refine RefC.ret ?_
  refine RefE.retV rfl ?_
  refine RefV.tmp rfl ?_
  exact RefV.nil rfl

def slices_IndexFunc_Frame_l0 (K : Nat) (a0 : Sl) (again : Int → G (Unit ⊕ Int)) (s13 : Int) : G (Unit ⊕ Int) :=
  if (decide (s13 < (a0.n : Int))) = true then
    ixA a0 s13 8 fun x14 =>
    ldG (α := Tapi_Frame) x14 fun x15 =>
    bnd (leg_Leg_pong_1 K x15) fun x16 =>
    if x16 = true then
      inr (ret s13)
    else
      again ((IntKind.wrap .i64 (s13 + (1 : Int))))
  else
    ret (.inl ())
def slices_IndexFunc_Frame (K : Nat) (a0 : Sl) : G (Int) :=
  bnd (
    loopG (slices_IndexFunc_Frame_l0 K a0) K ((0 : Int))) (sumK fun (s17 : Unit) =>
  ret (-1 : Int))
set_option maxRecDepth 100000 in
theorem slices_IndexFunc_Frame_ref (K : Nat) (a0 : Sl) : Does Try.prog 70 [.slice a0.a a0.n a0.c, .func (.func 71) #[] #[]] (slices_IndexFunc_Frame K a0) (fun r => .int .i64 r) := by
  refine Does.of Try.func70 rfl rfl rfl ?_
  unfold slices_IndexFunc_Frame
  refine RefC.seq ?_
  refine RefC.region ?_
  refine RefL.pure rfl rfl (RanP.assign rfl) ?_
  refine RefL.nil ?_
  refine RefE.next ?_
  refine RefC.seq ?_
  refine RefC.seq ?_
  refine RefC.region ?_
  refine RefL.pure rfl rfl (RanP.move rfl) ?_
  refine RefL.pure rfl rfl (RanP.lenSl rfl Try.underlying54 rfl) ?_
  refine RefL.pure rfl rfl (RanP.move rfl) ?_
  refine RefL.nil ?_
  refine RefE.next ?_
  refine RefC.cutSum (enc := fun (s17 : Unit) => ([] : Env)) (KThen.mono KRet.mono) ?_ ?_
  · refine RefC.block ?_
    refine RefC.loopW (enc := fun (s13 : Int) => ([(8, .int .i64 s13), (0, .slice a0.a a0.n a0.c), (1, .func (.func 71) #[] #[]), (7, .int .i64 (a0.n : Int))] : Env)) ⟨rfl, rfl, rfl, rfl, trivial⟩ ?_ _
    intro again k ih s13
    unfold slices_IndexFunc_Frame_l0
    refine RefC.seq ?_
    refine RefC.region ?_
    refine RefL.pure rfl rfl (RanP.lss rfl rfl) ?_
    refine RefL.nil ?_
    refine RefE.next ?_
    refine RefC.seq ?_
    refine RefC.cond rfl ?_ ?_
    · refine RefC.skip ?_
      refine RefE.next ?_
      refine RefC.seq ?_
      refine RefC.block ?_
      refine RefC.seq ?_
      refine RefC.region ?_
      refine RefL.pure rfl rfl (RanP.move rfl) ?_
      refine RefL.pure rfl rfl (RanP.assign rfl) ?_
      refine RefL.nil ?_
      refine RefE.next ?_
      refine RefC.seq ?_
      refine RefC.region ?_
      refine RefL.pure rfl rfl (RanP.move rfl) ?_
      refine RefL.pure rfl rfl (RanP.move rfl) ?_
      refine RefL.pure rfl rfl (RanP.move rfl) ?_
      refine RefL.li rfl rfl (Lt.ixA Try.underlying54 Try.sizeOf59 rfl rfl fun x14 => ?_)
      refine RefL.li rfl rfl (Lt.ldG (τ := Tapi_Frame) Try.isAgg59 Try.sizeOf59 rfl fun x15 => ?_)
      refine RefL.hv rfl rfl (Hv.call (leg_Leg_pong_1_ref K x15) Try.call71 rfl rfl rfl fun x16 => ?_)
      refine RefL.nil ?_
      refine RefE.next ?_
      refine RefC.cond rfl ?_ ?_
      · refine RefC.seq ?_
        refine RefC.region ?_
        refine RefL.pure rfl rfl (RanP.move rfl) ?_
        refine RefL.pure rfl rfl (RanP.assign rfl) ?_
        refine RefL.nil ?_
        refine RefE.next ?_
        refine RefC.ret ?_
        refine RefE.blockRet ?_
        refine RefE.thenRet ?_
        refine RefE.roundRet ?_
        refine RefE.blockRet ?_
        refine RefE.finR ?_
        refine RefE.thenRet ?_
        refine RefE.retV rfl ?_
        refine RefV.tmp rfl ?_
        exact RefV.nil rfl
      · refine RefC.skip ?_
        refine RefE.blockNormal ?_
        refine RefE.next ?_
        refine RefC.region ?_
        refine RefL.pure rfl rfl (RanP.add rfl rfl) ?_
        refine RefL.pure rfl rfl (RanP.move rfl) ?_
        refine RefL.nil ?_
        exact RefE.again (ih ((IntKind.wrap .i64 (s13 + (1 : Int))))) ⟨rfl, rfl, rfl, rfl, trivial⟩
    · refine RefC.exit ?_
      refine RefE.thenExit ?_
      refine RefE.roundExit ?_
      refine RefE.blockExit ?_
      exact RefE.finL (s := ()) trivial
  · intro s17
    refine RefE.next ?_
    refine RefC.seq ?_
    refine RefC.region ?_
    refine RefL.pure rfl rfl (RanP.assign rfl) ?_
    refine RefL.nil ?_
    refine RefE.next ?_
    refine RefC.ret ?_
    refine RefE.retV rfl ?_
    refine RefV.tmp rfl ?_
    exact RefV.nil rfl

def leg_Leg_pong (K : Nat) (a0 : Option Addr) (a1 : ByteArray) : G (Unit) :=
  nn a0 fun x1 =>
  ldB (x1.add 20) fun x2 =>
  if x2 = true then
    ret ()
  else
    nn a0 fun x3 =>
    ldSl (x3.add 16) fun x4 =>
    bnd (slices_IndexFunc_Frame K x4) fun x5 =>
    bnd (
      if (decide (x5 < (0 : Int))) = true then
        nn a0 fun x14 =>
        ldSl (x14.add 16) fun x15 =>
        new (Agg.cells (Tapi_Frame.mk true (10 : Int) false (0 : Int) (0 : Int) (0 : Int) (0 : Int) (ByteArray.mk #[]))) 59 fun x16 =>
        appS 59 8 40 [.bool false, .int .i64 (0 : Int), .bool false, .int .u8 (0 : Int), .int .u8 (0 : Int), .int .u8 (0 : Int), .int .u8 (0 : Int), .string (ByteArray.mk #[])] x15 (Sl.mk (some x16) 1 1) fun x17 =>
        nn a0 fun x18 =>
        st (x18.add 16) (.slice x17.a x17.n x17.c) <|
        nn a0 fun x19 =>
        ldSl (x19.add 16) fun x20 =>
        lt (IntKind.wrap .i64 ((x20.n : Int) - (1 : Int))) fun x21 =>
        ret (x21)
      else
        ret (x5)) fun (s22 : Int) =>
    nn a0 fun x23 =>
    ldSl (x23.add 16) fun x24 =>
    ixA x24 s22 8 fun x25 =>
    st (x25.add 7) (.string a1) <|
    bnd (leg_Leg_move K a0) fun x26 =>
    ret ()
set_option maxRecDepth 100000 in
theorem leg_Leg_pong_ref (K : Nat) (a0 : Option Addr) (a1 : ByteArray) : Does Try.prog 50 [.pointer a0, .string a1] (leg_Leg_pong K a0 a1) (fun _ => .tuple #[]) := by
  refine Does.of Try.func50 rfl rfl rfl ?_
  unfold leg_Leg_pong
  refine RefC.seq ?_
  refine RefC.seq ?_
  refine RefC.region ?_
  refine RefL.pure rfl rfl (RanP.move rfl) ?_
  refine RefL.li rfl rfl (Lt.nn rfl fun x1 => ?_)
  refine RefL.pure rfl rfl (RanP.fieldAddr fa_71_8 rfl) ?_
  refine RefL.li rfl rfl (Lt.ldB Try.isAgg4 rfl fun x2 => ?_)
  refine RefL.nil ?_
  refine RefE.next ?_
  refine RefC.cond rfl ?_ ?_
  · refine RefC.ret ?_
    refine RefE.thenRet ?_
    refine RefE.retV rfl ?_
    exact RefV.nil rfl
  · refine RefC.skip ?_
    refine RefE.next ?_
    refine RefC.seq ?_
    refine RefC.region ?_
    refine RefL.pure rfl rfl (RanP.move rfl) ?_
    refine RefL.li rfl rfl (Lt.nn rfl fun x3 => ?_)
    refine RefL.pure rfl rfl (RanP.fieldAddr fa_71_4 rfl) ?_
    refine RefL.li rfl rfl (Lt.ldSl Try.isAgg54 rfl fun x4 => ?_)
    refine RefL.hv rfl rfl (Hv.call (slices_IndexFunc_Frame_ref K x4) Try.call70 rfl rfl rfl fun x5 => ?_)
    refine RefL.pure rfl rfl (RanP.assign rfl) ?_
    refine RefL.nil ?_
    refine RefE.next ?_
    refine RefC.seq ?_
    refine RefC.seq ?_
    refine RefC.region ?_
    refine RefL.pure rfl rfl (RanP.move rfl) ?_
    refine RefL.pure rfl rfl (RanP.lss rfl rfl) ?_
    refine RefL.nil ?_
    refine RefE.next ?_
    refine RefC.cut (enc := fun (s22 : Int) => ([(4, .int .i64 s22), (0, .pointer a0), (1, .string a1)] : Env)) ?_ ?_
    · refine RefC.cond rfl ?_ ?_
      · refine RefC.seq ?_
        refine RefC.region ?_
        refine RefL.pure rfl rfl (RanP.move rfl) ?_
        refine RefL.pure rfl rfl (RanP.move rfl) ?_
        refine RefL.li rfl rfl (Lt.nn rfl fun x14 => ?_)
        refine RefL.pure rfl rfl (RanP.fieldAddr fa_71_4 rfl) ?_
        refine RefL.li rfl rfl (Lt.ldSl Try.isAgg54 rfl fun x15 => ?_)
        refine RefL.pure rfl rfl (RanP.build rfl (v := .agg (Agg.cells (Tapi_Frame.mk true (10 : Int) false (0 : Int) (0 : Int) (0 : Int) (0 : Int) (ByteArray.mk #[]))).toArray) (fun _ => by kernel_rfl)) ?_
        refine RefL.hv rfl rfl (Hv.buildSlice rfl (cs := (Agg.cells (Tapi_Frame.mk true (10 : Int) false (0 : Int) (0 : Int) (0 : Int) (0 : Int) (ByteArray.mk #[])))) (e := 59) (fun _ => by kernel_rfl) fun x16 => ?_)
        refine RefL.hv rfl rfl (Hv.appS (i := Try.t59) rfl Try.underlying54 Try.underlying54 rfl rfl rfl rfl fun x17 => ?_)
        refine RefL.li rfl rfl (Lt.nn rfl fun x18 => ?_)
        refine RefL.pure rfl rfl (RanP.fieldAddr fa_71_4 rfl) ?_
        refine RefL.hv rfl rfl (Hv.st Try.sizeOf54 rfl rfl rfl ?_)
        refine RefL.nil ?_
        refine RefE.next ?_
        refine RefC.region ?_
        refine RefL.pure rfl rfl (RanP.move rfl) ?_
        refine RefL.li rfl rfl (Lt.nn rfl fun x19 => ?_)
        refine RefL.pure rfl rfl (RanP.fieldAddr fa_71_4 rfl) ?_
        refine RefL.li rfl rfl (Lt.ldSl Try.isAgg54 rfl fun x20 => ?_)
        refine RefL.pure rfl rfl (RanP.lenSl rfl Try.underlying54 rfl) ?_
        refine RefL.pure rfl rfl (RanP.sub rfl rfl) ?_
        refine RefL.pure rfl rfl (RanP.assign rfl) ?_
        refine RefL.lt 4 (fun y => .int .i64 y) rfl fun x21 => ?_
        refine RefL.nil ?_
        exact RefE.fin (s := (x21)) ⟨rfl, rfl, rfl, trivial⟩
      · refine RefC.skip ?_
        exact RefE.fin (s := (x5)) ⟨rfl, rfl, rfl, trivial⟩
    · intro s22
      refine RefE.next ?_
      refine RefC.seq ?_
      refine RefC.region ?_
      refine RefL.pure rfl rfl (RanP.move rfl) ?_
      refine RefL.li rfl rfl (Lt.nn rfl fun x23 => ?_)
      refine RefL.pure rfl rfl (RanP.fieldAddr fa_71_4 rfl) ?_
      refine RefL.li rfl rfl (Lt.ldSl Try.isAgg54 rfl fun x24 => ?_)
      refine RefL.pure rfl rfl (RanP.move rfl) ?_
      refine RefL.pure rfl rfl (RanP.move rfl) ?_
      refine RefL.li rfl rfl (Lt.ixA Try.underlying54 Try.sizeOf59 rfl rfl fun x25 => ?_)
      refine RefL.pure rfl rfl (RanP.fieldAddr fa_59_4 rfl) ?_
      refine RefL.hv rfl rfl (Hv.st Try.sizeOf9 rfl rfl rfl ?_)
      refine RefL.nil ?_
      refine RefE.next ?_
      refine RefC.region ?_
      refine RefL.pure rfl rfl (RanP.move rfl) ?_
      refine RefL.hv rfl rfl (Hv.call (leg_Leg_move_ref K a0) Try.call35 rfl rfl rfl fun x26 => ?_)
      refine RefL.nil ?_
      refine RefE.endV rfl ?_
      exact RefV.nil rfl

def close_Across (K : Nat) (a0 : Int) : G (Int) :=
  lt (a0 == (1005 : Int)) fun x1 =>
  if x1 = true then
    ret (0 : Int)
  else
    bnd (close_Valid K a0) fun x2 =>
    if x2 = true then
      ret a0
    else
      ret (1011 : Int)
set_option maxRecDepth 100000 in
theorem close_Across_ref (K : Nat) (a0 : Int) : Does Try.prog 51 [.int .i64 a0] (close_Across K a0) (fun r => .int .i64 r) := by
  refine Does.of Try.func51 rfl rfl rfl ?_
  unfold close_Across
  refine RefC.seq ?_
  refine RefC.region ?_
  refine RefL.pure rfl rfl (RanP.assign rfl) ?_
  refine RefL.nil ?_
  refine RefE.next ?_
  refine RefC.seq ?_
  refine RefC.block ?_
  refine RefC.seq ?_
  refine RefC.region ?_
  refine RefL.pure rfl rfl (RanP.move rfl) ?_
  refine RefL.pure rfl rfl (RanP.eql rfl rfl) ?_
  refine RefL.pure rfl rfl (RanP.assign rfl) ?_
  refine RefL.lt 3 (fun y => .bool y) rfl fun x1 => ?_
  refine RefL.nil ?_
  refine RefE.next ?_
  refine RefC.cond rfl ?_ ?_
  · refine RefC.seq ?_
    refine RefC.region ?_
    refine RefL.pure rfl rfl (RanP.assign rfl) ?_
    refine RefL.nil ?_
    refine RefE.next ?_
    refine RefC.ret ?_
    refine RefE.blockRet ?_
    refine RefE.thenRet ?_
    refine RefE.retV rfl ?_
    refine RefV.tmp rfl ?_
    exact RefV.nil rfl
  · refine RefC.seq ?_
    refine RefC.region ?_
    refine RefL.pure rfl rfl (RanP.move rfl) ?_
    refine RefL.hv rfl rfl (Hv.call (close_Valid_ref K a0) Try.call57 rfl rfl rfl fun x2 => ?_)
    refine RefL.pure rfl rfl (RanP.assign rfl) ?_
    refine RefL.nil ?_
    refine RefE.next ?_
    refine RefC.cond rfl ?_ ?_
    · refine RefC.seq ?_
      refine RefC.region ?_
      refine RefL.pure rfl rfl (RanP.move rfl) ?_
      refine RefL.pure rfl rfl (RanP.assign rfl) ?_
      refine RefL.nil ?_
      refine RefE.next ?_
      refine RefC.ret ?_
      refine RefE.blockRet ?_
      refine RefE.thenRet ?_
      refine RefE.retV rfl ?_
      refine RefV.tmp rfl ?_
      exact RefV.nil rfl
    · refine RefC.skip ?_
      refine RefE.blockNormal ?_
      refine RefE.next ?_
      refine RefC.seq ?_
      refine RefC.region ?_
      refine RefL.pure rfl rfl (RanP.assign rfl) ?_
      refine RefL.nil ?_
      refine RefE.next ?_
      refine RefC.ret ?_
      refine RefE.retV rfl ?_
      refine RefV.tmp rfl ?_
      exact RefV.nil rfl

def leg_Leg_take (K : Nat) (a0 : Option Addr) (a1 : Tapi_Frame) : G (Tapi_Event × Bool) :=
  new (Agg.cells a1) 59 fun x1 =>
  new [.int .i64 (0 : Int), .int .i64 (0 : Int), .string (ByteArray.mk #[])] 47 fun x2 =>
  bnd (
    drw2 (
      nn a0 fun x15 =>
      ldP (x15.add 13) fun x16 =>
      ldG (α := Tapi_Frame) x1 fun x17 =>
      bnd (msg_Machine_Take K x16 x17) fun x18 =>
      new [.int .i64 (0 : Int), .int .i64 (0 : Int), .string (ByteArray.mk #[])] 47 fun x19 =>
      st x19 (.agg (Agg.cells x18.1).toArray) <|
      ret (x19, x18.2.1, x18.2.2)) (
      nn a0 fun x20 =>
      wld fun w22 =>
      ldP (x20.add 13) fun x21 =>
      wld fun w24 =>
      ldG (α := Tapi_Frame) x1 fun x23 =>
      new [.int .i64 (0 : Int), .int .i64 (0 : Int), .string (ByteArray.mk #[])] 47 fun x25 =>
      agr (like (x20.add 13) 1 w22) <|
      agr (like x1 (Agg.size Tapi_Frame) w24) <|
      bnd (msg_Machine_Take K x21 x23) fun x26 =>
      st x25 (.agg (Agg.cells x26.1).toArray) <|
      ret (x25, x26.2.1, x26.2.2))) fun (s27 : Addr × Bool × Int) =>
  lt (s27.2.2 != (0 : Int)) fun x28 =>
  if x28 = true then
    bnd (leg_Leg_fail K a0 s27.2.2) fun x29 =>
    st x2 (.agg (Agg.cells (Tapi_Event.mk (0 : Int) (0 : Int) (ByteArray.mk #[]))).toArray) <|
    ldG (α := Tapi_Event) x2 fun r30 =>
    ret (r30, false)
  else
    bnd (
      if s27.2.1 = true then
        ldI .i64 (s27.1.add 0) fun x32 =>
        ret (x32 == (9 : Int))
      else
        ret false) fun (x31 : Bool) =>
    if x31 = true then
      ldS (s27.1.add 2) fun x33 =>
      bnd (leg_Leg_pong K a0 x33) fun x34 =>
      st x2 (.agg (Agg.cells (Tapi_Event.mk (0 : Int) (0 : Int) (ByteArray.mk #[]))).toArray) <|
      ldG (α := Tapi_Event) x2 fun r35 =>
      ret (r35, false)
    else
      bnd (
        if s27.2.1 = true then
          ldI .i64 (s27.1.add 0) fun x37 =>
          ret (x37 == (8 : Int))
        else
          ret false) fun (x36 : Bool) =>
      bnd (
        if x36 = true then
          nn a0 fun x42 =>
          st (x42.add 21) (.bool true) <|
          ldI .i64 (s27.1.add 1) fun x43 =>
          bnd (close_Across K x43) fun x44 =>
          bnd (leg_Leg_Close K a0 x44 (ByteArray.mk #[])) fun x45 =>
          ret ()
        else
          ret ()) fun (s46 : Unit) =>
      ldG (α := Tapi_Event) s27.1 fun x47 =>
      st x2 (.agg (Agg.cells x47).toArray) <|
      ldG (α := Tapi_Event) x2 fun r48 =>
      ret (r48, s27.2.1)
set_option maxRecDepth 100000 in
theorem leg_Leg_take_ref (K : Nat) (a0 : Option Addr) (a1 : Tapi_Frame) : Does Try.prog 32 [.pointer a0, .agg (Agg.cells a1).toArray] (leg_Leg_take K a0 a1) (fun r => .tuple #[.agg (Agg.cells r.1).toArray, .bool r.2]) := by
  refine Does.of Try.func32 rfl rfl rfl ?_
  unfold leg_Leg_take
  refine RefC.seq ?_
  refine RefC.region ?_
  refine RefL.hv rfl rfl (Hv.box rfl rfl fun x1 => ?_)
  refine RefL.hv rfl rfl (Hv.newZ Try.zeroValue47 rfl fun x2 => ?_)
  refine RefL.pure rfl rfl (RanP.assign rfl) ?_
  refine RefL.nil ?_
  refine RefE.next ?_
  refine RefC.seq ?_
  refine RefC.cut (enc := fun (s27 : Addr × Bool × Int) => ([(6, .pointer (some s27.1)), (7, .bool s27.2.1), (8, .int .i64 s27.2.2), (0, .pointer a0), (4, .pointer (some x2))] : Env)) ?_ ?_
  · refine RefC.draw2 mixed [0, 1, 3, 7, 0, 31, 63, 127, 127, 127, 0, 1279, 3583, 8191] [.lp 0, .lp 1, .lp 2, .li 3, .li 4, .hv 5, .lp 6, .lp 7, .lp 8, .lp 9, .hv 10, .hv 11, .lp 12, .lp 13] [.lp 0, .lp 1, .lp 2, .li 3, .li 4, .hv 10, .re 3, .re 4, .hv 5, .lp 6, .lp 7, .lp 8, .lp 9, .hv 11, .lp 12, .lp 13] (by kernel_rfl) ?_ ?_
    · refine RefD.pure (at_ rfl) rfl (RanP.move rfl) ?_
      refine RefD.any (at_ rfl) rfl (Lt.nn rfl fun x15 => ?_)
      refine RefD.pure (at_ rfl) rfl (RanP.fieldAddr fa_71_2 rfl) ?_
      refine RefD.li0 (at_ rfl) rfl (Lt.ldP Try.isAgg66 rfl fun x16 => ?_)
      refine RefD.li0 (at_ rfl) rfl (Lt.ldG (τ := Tapi_Frame) Try.isAgg59 Try.sizeOf59 rfl fun x17 => ?_)
      refine RefD.hv (at_ rfl) rfl (Hv.call (msg_Machine_Take_ref K x16 x17) Try.call49 rfl rfl rfl fun x18 => ?_)
      refine RefD.pure (at_ rfl) rfl (RanP.move rfl) ?_
      refine RefD.pure (at_ rfl) rfl (RanP.extract rfl rfl) ?_
      refine RefD.pure (at_ rfl) rfl (RanP.extract rfl rfl) ?_
      refine RefD.pure (at_ rfl) rfl (RanP.extract rfl rfl) ?_
      refine RefD.hv (at_ rfl) rfl (Hv.newZ Try.zeroValue47 rfl fun x19 => ?_)
      refine RefD.hv (at_ rfl) rfl (Hv.st Try.sizeOf47 rfl rfl rfl ?_)
      refine RefD.pure (at_ rfl) rfl (RanP.assign rfl) ?_
      refine RefD.pure (at_ rfl) rfl (RanP.assign rfl) ?_
      refine RefD.nil ?_
      exact RefE.fin (s := (x19, x18.2.1, x18.2.2)) ⟨rfl, rfl, rfl, rfl, rfl, trivial⟩
    · refine RefD.pure (at_ rfl) rfl (RanP.move rfl) ?_
      refine RefD.any (at_ rfl) rfl (Lt.nn rfl fun x20 => ?_)
      refine RefD.pure (at_ rfl) rfl (RanP.fieldAddr fa_71_2 rfl) ?_
      refine RefD.li (at_ rfl) rfl fun w22 => (Lt.ldP Try.isAgg66 rfl fun x21 => ?_)
      refine RefD.li (at_ rfl) rfl fun w24 => (Lt.ldG (τ := Tapi_Frame) Try.isAgg59 Try.sizeOf59 rfl fun x23 => ?_)
      refine RefD.hv (at_ rfl) rfl (Hv.newZ Try.zeroValue47 rfl fun x25 => ?_)
      refine RefD.re rfl ?_
      refine RefD.re rfl ?_
      refine RefD.hv (at_ rfl) rfl (Hv.call (msg_Machine_Take_ref K x21 x23) Try.call49 rfl rfl rfl fun x26 => ?_)
      refine RefD.pure (at_ rfl) rfl (RanP.move rfl) ?_
      refine RefD.pure (at_ rfl) rfl (RanP.extract rfl rfl) ?_
      refine RefD.pure (at_ rfl) rfl (RanP.extract rfl rfl) ?_
      refine RefD.pure (at_ rfl) rfl (RanP.extract rfl rfl) ?_
      refine RefD.hv (at_ rfl) rfl (Hv.st Try.sizeOf47 rfl rfl rfl ?_)
      refine RefD.pure (at_ rfl) rfl (RanP.assign rfl) ?_
      refine RefD.pure (at_ rfl) rfl (RanP.assign rfl) ?_
      refine RefD.nil ?_
      exact RefE.fin (s := (x25, x26.2.1, x26.2.2)) ⟨rfl, rfl, rfl, rfl, rfl, trivial⟩
  · intro s27
    refine RefE.next ?_
    refine RefC.seq ?_
    refine RefC.block ?_
    refine RefC.seq ?_
    refine RefC.region ?_
    refine RefL.pure rfl rfl (RanP.move rfl) ?_
    refine RefL.pure rfl rfl (RanP.neq rfl rfl) ?_
    refine RefL.pure rfl rfl (RanP.assign rfl) ?_
    refine RefL.lt 19 (fun y => .bool y) rfl fun x28 => ?_
    refine RefL.nil ?_
    refine RefE.next ?_
    refine RefC.cond rfl ?_ ?_
    · refine RefC.seq ?_
      refine RefC.region ?_
      refine RefL.pure rfl rfl (RanP.move rfl) ?_
      refine RefL.pure rfl rfl (RanP.move rfl) ?_
      refine RefL.hv rfl rfl (Hv.call (leg_Leg_fail_ref K a0 s27.2.2) Try.call33 rfl rfl rfl fun x29 => ?_)
      refine RefL.nil ?_
      refine RefE.next ?_
      refine RefC.seq ?_
      refine RefC.region ?_
      refine RefL.pure rfl rfl (RanP.build rfl (v := .agg (Agg.cells (Tapi_Event.mk (0 : Int) (0 : Int) (ByteArray.mk #[]))).toArray) (fun _ => by kernel_rfl)) ?_
      refine RefL.hv rfl rfl (Hv.st Try.sizeOf47 rfl rfl rfl ?_)
      refine RefL.pure rfl rfl (RanP.assign rfl) ?_
      refine RefL.nil ?_
      refine RefE.next ?_
      refine RefC.ret ?_
      refine RefE.blockRet ?_
      refine RefE.thenRet ?_
      refine RefE.retV rfl ?_
      refine RefV.cellG Try.isAgg47 Try.sizeOf47 rfl fun r30 => ?_
      refine RefV.tmp rfl ?_
      exact RefV.nil rfl
    · refine RefC.seq ?_
      refine RefC.region ?_
      refine RefL.pure rfl rfl (RanP.move rfl) ?_
      refine RefL.pure rfl rfl (RanP.move rfl) ?_
      refine RefL.cut (enc := fun (x31 : Bool) => ([(32, .bool x31), (0, .pointer a0), (4, .pointer (some x2)), (6, .pointer (some s27.1)), (7, .bool s27.2.1)] : Env)) 4 ?_ ?_
      · refine RefL.ite (s := 28) rfl ?_ ?_
        · refine RefL.pure rfl rfl (RanP.fieldAddr fa_47_0 rfl) ?_
          refine RefL.li rfl rfl (Lt.ldI Try.isAgg3 rfl fun x32 => ?_)
          refine RefL.pure rfl rfl (RanP.eql rfl rfl) ?_
          refine RefL.pure rfl rfl (RanP.pickT rfl rfl) ?_
          refine RefL.nil ?_
          exact RefE.fin (s := (x32 == (9 : Int))) ⟨rfl, rfl, rfl, rfl, rfl, trivial⟩
        · refine RefL.skip rfl rfl ?_
          refine RefL.skip rfl rfl ?_
          refine RefL.skip rfl rfl ?_
          refine RefL.pure rfl rfl (RanP.pickF rfl rfl) ?_
          refine RefL.nil ?_
          exact RefE.fin (s := false) ⟨rfl, rfl, rfl, rfl, rfl, trivial⟩
      · intro x31
        refine RefL.pure rfl rfl (RanP.assign rfl) ?_
        refine RefL.nil ?_
        refine RefE.next ?_
        refine RefC.cond rfl ?_ ?_
        · refine RefC.seq ?_
          refine RefC.region ?_
          refine RefL.pure rfl rfl (RanP.move rfl) ?_
          refine RefL.pure rfl rfl (RanP.fieldAddr fa_47_2 rfl) ?_
          refine RefL.li rfl rfl (Lt.ldS Try.isAgg9 rfl fun x33 => ?_)
          refine RefL.hv rfl rfl (Hv.call (leg_Leg_pong_ref K a0 x33) Try.call50 rfl rfl rfl fun x34 => ?_)
          refine RefL.nil ?_
          refine RefE.next ?_
          refine RefC.seq ?_
          refine RefC.region ?_
          refine RefL.pure rfl rfl (RanP.build rfl (v := .agg (Agg.cells (Tapi_Event.mk (0 : Int) (0 : Int) (ByteArray.mk #[]))).toArray) (fun _ => by kernel_rfl)) ?_
          refine RefL.hv rfl rfl (Hv.st Try.sizeOf47 rfl rfl rfl ?_)
          refine RefL.pure rfl rfl (RanP.assign rfl) ?_
          refine RefL.nil ?_
          refine RefE.next ?_
          refine RefC.ret ?_
          refine RefE.blockRet ?_
          refine RefE.thenRet ?_
          refine RefE.retV rfl ?_
          refine RefV.cellG Try.isAgg47 Try.sizeOf47 rfl fun r35 => ?_
          refine RefV.tmp rfl ?_
          exact RefV.nil rfl
        · refine RefC.seq ?_
          refine RefC.region ?_
          refine RefL.pure rfl rfl (RanP.move rfl) ?_
          refine RefL.pure rfl rfl (RanP.move rfl) ?_
          refine RefL.cut (enc := fun (x36 : Bool) => ([(44, .bool x36), (0, .pointer a0), (4, .pointer (some x2)), (6, .pointer (some s27.1)), (7, .bool s27.2.1)] : Env)) 4 ?_ ?_
          · refine RefL.ite (s := 40) rfl ?_ ?_
            · refine RefL.pure rfl rfl (RanP.fieldAddr fa_47_0 rfl) ?_
              refine RefL.li rfl rfl (Lt.ldI Try.isAgg3 rfl fun x37 => ?_)
              refine RefL.pure rfl rfl (RanP.eql rfl rfl) ?_
              refine RefL.pure rfl rfl (RanP.pickT rfl rfl) ?_
              refine RefL.nil ?_
              exact RefE.fin (s := (x37 == (8 : Int))) ⟨rfl, rfl, rfl, rfl, rfl, trivial⟩
            · refine RefL.skip rfl rfl ?_
              refine RefL.skip rfl rfl ?_
              refine RefL.skip rfl rfl ?_
              refine RefL.pure rfl rfl (RanP.pickF rfl rfl) ?_
              refine RefL.nil ?_
              exact RefE.fin (s := false) ⟨rfl, rfl, rfl, rfl, rfl, trivial⟩
          · intro x36
            refine RefL.pure rfl rfl (RanP.assign rfl) ?_
            refine RefL.nil ?_
            refine RefE.next ?_
            refine RefC.cut (enc := fun (s46 : Unit) => ([(4, .pointer (some x2)), (6, .pointer (some s27.1)), (7, .bool s27.2.1)] : Env)) ?_ ?_
            · refine RefC.cond rfl ?_ ?_
              · refine RefC.seq ?_
                refine RefC.region ?_
                refine RefL.pure rfl rfl (RanP.move rfl) ?_
                refine RefL.li rfl rfl (Lt.nn rfl fun x42 => ?_)
                refine RefL.pure rfl rfl (RanP.fieldAddr fa_71_9 rfl) ?_
                refine RefL.hv rfl rfl (Hv.st Try.sizeOf4 rfl rfl rfl ?_)
                refine RefL.nil ?_
                refine RefE.next ?_
                refine RefC.region ?_
                refine RefL.pure rfl rfl (RanP.move rfl) ?_
                refine RefL.pure rfl rfl (RanP.fieldAddr fa_47_1 rfl) ?_
                refine RefL.li rfl rfl (Lt.ldI Try.isAgg3 rfl fun x43 => ?_)
                refine RefL.hv rfl rfl (Hv.call (close_Across_ref K x43) Try.call51 rfl rfl rfl fun x44 => ?_)
                refine RefL.hv rfl rfl (Hv.call (leg_Leg_Close_ref K a0 x44 (ByteArray.mk #[])) Try.call20 rfl rfl rfl fun x45 => ?_)
                refine RefL.nil ?_
                exact RefE.fin (s := ()) ⟨rfl, rfl, rfl, trivial⟩
              · refine RefC.skip ?_
                exact RefE.fin (s := ()) ⟨rfl, rfl, rfl, trivial⟩
            · intro s46
              refine RefE.blockNormal ?_
              refine RefE.next ?_
              refine RefC.seq ?_
              refine RefC.region ?_
              refine RefL.li rfl rfl (Lt.ldG (τ := Tapi_Event) Try.isAgg47 Try.sizeOf47 rfl fun x47 => ?_)
              refine RefL.pure rfl rfl (RanP.move rfl) ?_
              refine RefL.hv rfl rfl (Hv.st Try.sizeOf47 rfl rfl rfl ?_)
              refine RefL.pure rfl rfl (RanP.assign rfl) ?_
              refine RefL.nil ?_
              refine RefE.next ?_
              refine RefC.ret ?_
              refine RefE.retV rfl ?_
              refine RefV.cellG Try.isAgg47 Try.sizeOf47 rfl fun r48 => ?_
              refine RefV.tmp rfl ?_
              exact RefV.nil rfl

def leg_Leg_Feed_l0 (K : Nat) (x8 : Sl × Int) (a0 : Option Addr) (again : (Sl × Int) → G (Sl ⊕ Sl)) (s66 : Sl × Int) : G (Sl ⊕ Sl) :=
  if (decide (s66.2 < (x8.1.n : Int))) = true then
    ixA x8.1 s66.2 8 fun x67 =>
    ldG (α := Tapi_Frame) x67 fun x68 =>
    new [.bool false, .int .i64 (0 : Int), .bool false, .int .u8 (0 : Int), .int .u8 (0 : Int), .int .u8 (0 : Int), .int .u8 (0 : Int), .string (ByteArray.mk #[])] 59 fun x69 =>
    st x69 (.agg (Agg.cells x68).toArray) <|
    ldG (α := Tapi_Frame) x69 fun x70 =>
    bnd (leg_Leg_take K a0 x70) fun x71 =>
    new [.int .i64 (0 : Int), .int .i64 (0 : Int), .string (ByteArray.mk #[])] 47 fun x72 =>
    st x72 (.agg (Agg.cells x71.1).toArray) <|
    bnd (
      if x71.2 = true then
        ldG (α := Tapi_Event) x72 fun x76 =>
        new (Agg.cells x76) 47 fun x77 =>
        appS 47 3 32 [.int .i64 (0 : Int), .int .i64 (0 : Int), .string (ByteArray.mk #[])] s66.1 (Sl.mk (some x77) 1 1) fun x78 =>
        ret (x78)
      else
        ret (s66.1)) fun (s79 : Sl) =>
    nn a0 fun x80 =>
    ldB (x80.add 21) fun x81 =>
    bnd (
      if x81 = true then
        ret true
      else
        nn a0 fun x83 =>
        ldI .i64 (x83.add 22) fun x84 =>
        ret (x84 != (0 : Int))) fun (x82 : Bool) =>
    if x82 = true then
      inr (ret s79)
    else
      again (s79, (IntKind.wrap .i64 (s66.2 + (1 : Int))))
  else
    ret (.inl (s66.1))
def leg_Leg_Feed (K : Nat) (a0 : Option Addr) (a1 : Sl) : G (Sl) :=
  nn a0 fun x1 =>
  ldB (x1.add 21) fun x2 =>
  bnd (
    if x2 = true then
      ret true
    else
      nn a0 fun x4 =>
      ldI .i64 (x4.add 22) fun x5 =>
      ret (x5 != (0 : Int))) fun (x3 : Bool) =>
  if x3 = true then
    ret Sl.nil
  else
    nn a0 fun x6 =>
    ldP (x6.add 12) fun x7 =>
    bnd (stream_Stream_Feed K x7 a1) fun x8 =>
    bnd (
      loopG (leg_Leg_Feed_l0 K x8 a0) K (Sl.nil, (0 : Int))) (sumK fun (s85 : Sl) =>
    bnd (
      if (x8.2 != (0 : Int)) = true then
        bnd (leg_Leg_fail K a0 x8.2) fun x87 =>
        ret ()
      else
        ret ()) fun (s88 : Unit) =>
    ret s85)
set_option maxRecDepth 100000 in
theorem leg_Leg_Feed_ref (K : Nat) (a0 : Option Addr) (a1 : Sl) : Does Try.prog 12 [.pointer a0, .slice a1.a a1.n a1.c] (leg_Leg_Feed K a0 a1) (fun r => .slice r.a r.n r.c) := by
  refine Does.of Try.func12 rfl rfl rfl ?_
  unfold leg_Leg_Feed
  refine RefC.seq ?_
  refine RefC.region ?_
  refine RefL.pure rfl rfl (RanP.assign rfl) ?_
  refine RefL.nil ?_
  refine RefE.next ?_
  refine RefC.seq ?_
  refine RefC.seq ?_
  refine RefC.region ?_
  refine RefL.pure rfl rfl (RanP.move rfl) ?_
  refine RefL.li rfl rfl (Lt.nn rfl fun x1 => ?_)
  refine RefL.pure rfl rfl (RanP.fieldAddr fa_71_9 rfl) ?_
  refine RefL.li rfl rfl (Lt.ldB Try.isAgg4 rfl fun x2 => ?_)
  refine RefL.pure rfl rfl (RanP.move rfl) ?_
  refine RefL.cut (enc := fun (x3 : Bool) => ([(22, .bool x3), (0, .pointer a0), (1, .slice a1.a a1.n a1.c)] : Env)) 6 ?_ ?_
  · refine RefL.ite (s := 16) rfl ?_ ?_
    · refine RefL.skip rfl rfl ?_
      refine RefL.skip rfl rfl ?_
      refine RefL.skip rfl rfl ?_
      refine RefL.skip rfl rfl ?_
      refine RefL.skip rfl rfl ?_
      refine RefL.pure rfl rfl (RanP.pickT rfl rfl) ?_
      refine RefL.nil ?_
      exact RefE.fin (s := true) ⟨rfl, rfl, rfl, trivial⟩
    · refine RefL.pure rfl rfl (RanP.move rfl) ?_
      refine RefL.li rfl rfl (Lt.nn rfl fun x4 => ?_)
      refine RefL.pure rfl rfl (RanP.fieldAddr fa_71_10 rfl) ?_
      refine RefL.li rfl rfl (Lt.ldI Try.isAgg28 rfl fun x5 => ?_)
      refine RefL.pure rfl rfl (RanP.neq rfl rfl) ?_
      refine RefL.pure rfl rfl (RanP.pickF rfl rfl) ?_
      refine RefL.nil ?_
      exact RefE.fin (s := (x5 != (0 : Int))) ⟨rfl, rfl, rfl, trivial⟩
  · intro x3
    refine RefL.nil ?_
    refine RefE.next ?_
    refine RefC.cond rfl ?_ ?_
    · refine RefC.seq ?_
      refine RefC.region ?_
      refine RefL.pure rfl rfl (RanP.assign rfl) ?_
      refine RefL.nil ?_
      refine RefE.next ?_
      refine RefC.ret ?_
      refine RefE.thenRet ?_
      refine RefE.retV rfl ?_
      refine RefV.tmp rfl ?_
      exact RefV.nil rfl
    · refine RefC.skip ?_
      refine RefE.next ?_
      refine RefC.seq ?_
      refine RefC.region ?_
      refine RefL.pure rfl rfl (RanP.move rfl) ?_
      refine RefL.li rfl rfl (Lt.nn rfl fun x6 => ?_)
      refine RefL.pure rfl rfl (RanP.fieldAddr fa_71_1 rfl) ?_
      refine RefL.li rfl rfl (Lt.ldP Try.isAgg65 rfl fun x7 => ?_)
      refine RefL.pure rfl rfl (RanP.move rfl) ?_
      refine RefL.hv rfl rfl (Hv.call (stream_Stream_Feed_ref K x7 a1) Try.call31 rfl rfl rfl fun x8 => ?_)
      refine RefL.pure rfl rfl (RanP.move rfl) ?_
      refine RefL.pure rfl rfl (RanP.extract rfl rfl) ?_
      refine RefL.pure rfl rfl (RanP.extract rfl rfl) ?_
      refine RefL.pure rfl rfl (RanP.assign rfl) ?_
      refine RefL.pure rfl rfl (RanP.assign rfl) ?_
      refine RefL.nil ?_
      refine RefE.next ?_
      refine RefC.seq ?_
      refine RefC.region ?_
      refine RefL.pure rfl rfl (RanP.assign rfl) ?_
      refine RefL.nil ?_
      refine RefE.next ?_
      refine RefC.seq ?_
      refine RefC.seq ?_
      refine RefC.region ?_
      refine RefL.pure rfl rfl (RanP.move rfl) ?_
      refine RefL.pure rfl rfl (RanP.lenSl rfl Try.underlying54 rfl) ?_
      refine RefL.pure rfl rfl (RanP.move rfl) ?_
      refine RefL.nil ?_
      refine RefE.next ?_
      refine RefC.cutSum (enc := fun (s85 : Sl) => ([(7, .slice s85.a s85.n s85.c), (0, .pointer a0), (6, .int .i64 x8.2)] : Env)) (KThen.mono KRet.mono) ?_ ?_
      · refine RefC.block ?_
        refine RefC.loopW (enc := fun (s66 : Sl × Int) => ([(7, .slice s66.1.a s66.1.n s66.1.c), (34, .int .i64 s66.2), (0, .pointer a0), (6, .int .i64 x8.2), (32, .slice x8.1.a x8.1.n x8.1.c), (33, .int .i64 (x8.1.n : Int))] : Env)) ⟨rfl, rfl, rfl, rfl, rfl, rfl, trivial⟩ ?_ _
        intro again k ih s66
        unfold leg_Leg_Feed_l0
        refine RefC.seq ?_
        refine RefC.region ?_
        refine RefL.pure rfl rfl (RanP.lss rfl rfl) ?_
        refine RefL.nil ?_
        refine RefE.next ?_
        refine RefC.seq ?_
        refine RefC.cond rfl ?_ ?_
        · refine RefC.skip ?_
          refine RefE.next ?_
          refine RefC.seq ?_
          refine RefC.block ?_
          refine RefC.seq ?_
          refine RefC.region ?_
          refine RefL.li rfl rfl (Lt.ixA Try.underlying54 Try.sizeOf59 rfl rfl fun x67 => ?_)
          refine RefL.li rfl rfl (Lt.ldG (τ := Tapi_Frame) Try.isAgg59 Try.sizeOf59 rfl fun x68 => ?_)
          refine RefL.hv rfl rfl (Hv.newZ Try.zeroValue59 rfl fun x69 => ?_)
          refine RefL.hv rfl rfl (Hv.st Try.sizeOf59 rfl rfl rfl ?_)
          refine RefL.nil ?_
          refine RefE.next ?_
          refine RefC.seq ?_
          refine RefC.region ?_
          refine RefL.pure rfl rfl (RanP.move rfl) ?_
          refine RefL.li rfl rfl (Lt.ldG (τ := Tapi_Frame) Try.isAgg59 Try.sizeOf59 rfl fun x70 => ?_)
          refine RefL.hv rfl rfl (Hv.call (leg_Leg_take_ref K a0 x70) Try.call32 rfl rfl rfl fun x71 => ?_)
          refine RefL.pure rfl rfl (RanP.move rfl) ?_
          refine RefL.pure rfl rfl (RanP.extract rfl rfl) ?_
          refine RefL.pure rfl rfl (RanP.extract rfl rfl) ?_
          refine RefL.hv rfl rfl (Hv.newZ Try.zeroValue47 rfl fun x72 => ?_)
          refine RefL.hv rfl rfl (Hv.st Try.sizeOf47 rfl rfl rfl ?_)
          refine RefL.pure rfl rfl (RanP.assign rfl) ?_
          refine RefL.nil ?_
          refine RefE.next ?_
          refine RefC.seq ?_
          refine RefC.seq ?_
          refine RefC.region ?_
          refine RefL.pure rfl rfl (RanP.move rfl) ?_
          refine RefL.nil ?_
          refine RefE.next ?_
          refine RefC.cut (enc := fun (s79 : Sl) => ([(7, .slice s79.a s79.n s79.c), (0, .pointer a0), (6, .int .i64 x8.2), (32, .slice x8.1.a x8.1.n x8.1.c), (33, .int .i64 (x8.1.n : Int)), (34, .int .i64 s66.2)] : Env)) ?_ ?_
          · refine RefC.cond rfl ?_ ?_
            · refine RefC.region ?_
              refine RefL.pure rfl rfl (RanP.move rfl) ?_
              refine RefL.li rfl rfl (Lt.ldG (τ := Tapi_Event) Try.isAgg47 Try.sizeOf47 rfl fun x76 => ?_)
              refine RefL.hv rfl rfl (Hv.buildSlice rfl (cs := (Agg.cells x76)) (e := 47) (fun _ => by kernel_rfl) fun x77 => ?_)
              refine RefL.hv rfl rfl (Hv.appS (i := Try.t47) rfl Try.underlying34 Try.underlying34 rfl rfl rfl rfl fun x78 => ?_)
              refine RefL.pure rfl rfl (RanP.assign rfl) ?_
              refine RefL.nil ?_
              exact RefE.fin (s := (x78)) ⟨rfl, rfl, rfl, rfl, rfl, rfl, trivial⟩
            · refine RefC.skip ?_
              exact RefE.fin (s := (s66.1)) ⟨rfl, rfl, rfl, rfl, rfl, rfl, trivial⟩
          · intro s79
            refine RefE.next ?_
            refine RefC.seq ?_
            refine RefC.region ?_
            refine RefL.pure rfl rfl (RanP.move rfl) ?_
            refine RefL.li rfl rfl (Lt.nn rfl fun x80 => ?_)
            refine RefL.pure rfl rfl (RanP.fieldAddr fa_71_9 rfl) ?_
            refine RefL.li rfl rfl (Lt.ldB Try.isAgg4 rfl fun x81 => ?_)
            refine RefL.pure rfl rfl (RanP.move rfl) ?_
            refine RefL.cut (enc := fun (x82 : Bool) => ([(59, .bool x82), (0, .pointer a0), (6, .int .i64 x8.2), (7, .slice s79.a s79.n s79.c), (32, .slice x8.1.a x8.1.n x8.1.c), (33, .int .i64 (x8.1.n : Int)), (34, .int .i64 s66.2)] : Env)) 6 ?_ ?_
            · refine RefL.ite (s := 53) rfl ?_ ?_
              · refine RefL.skip rfl rfl ?_
                refine RefL.skip rfl rfl ?_
                refine RefL.skip rfl rfl ?_
                refine RefL.skip rfl rfl ?_
                refine RefL.skip rfl rfl ?_
                refine RefL.pure rfl rfl (RanP.pickT rfl rfl) ?_
                refine RefL.nil ?_
                exact RefE.fin (s := true) ⟨rfl, rfl, rfl, rfl, rfl, rfl, rfl, trivial⟩
              · refine RefL.pure rfl rfl (RanP.move rfl) ?_
                refine RefL.li rfl rfl (Lt.nn rfl fun x83 => ?_)
                refine RefL.pure rfl rfl (RanP.fieldAddr fa_71_10 rfl) ?_
                refine RefL.li rfl rfl (Lt.ldI Try.isAgg28 rfl fun x84 => ?_)
                refine RefL.pure rfl rfl (RanP.neq rfl rfl) ?_
                refine RefL.pure rfl rfl (RanP.pickF rfl rfl) ?_
                refine RefL.nil ?_
                exact RefE.fin (s := (x84 != (0 : Int))) ⟨rfl, rfl, rfl, rfl, rfl, rfl, rfl, trivial⟩
            · intro x82
              refine RefL.nil ?_
              refine RefE.next ?_
              refine RefC.cond rfl ?_ ?_
              · refine RefC.seq ?_
                refine RefC.region ?_
                refine RefL.pure rfl rfl (RanP.move rfl) ?_
                refine RefL.pure rfl rfl (RanP.assign rfl) ?_
                refine RefL.nil ?_
                refine RefE.next ?_
                refine RefC.ret ?_
                refine RefE.blockRet ?_
                refine RefE.thenRet ?_
                refine RefE.roundRet ?_
                refine RefE.blockRet ?_
                refine RefE.finR ?_
                refine RefE.thenRet ?_
                refine RefE.retV rfl ?_
                refine RefV.tmp rfl ?_
                exact RefV.nil rfl
              · refine RefC.skip ?_
                refine RefE.blockNormal ?_
                refine RefE.next ?_
                refine RefC.region ?_
                refine RefL.pure rfl rfl (RanP.add rfl rfl) ?_
                refine RefL.pure rfl rfl (RanP.move rfl) ?_
                refine RefL.nil ?_
                exact RefE.again (ih (s79, (IntKind.wrap .i64 (s66.2 + (1 : Int))))) ⟨rfl, rfl, rfl, rfl, rfl, rfl, trivial⟩
        · refine RefC.exit ?_
          refine RefE.thenExit ?_
          refine RefE.roundExit ?_
          refine RefE.blockExit ?_
          exact RefE.finL (s := (s66.1)) ⟨rfl, rfl, rfl, trivial⟩
      · intro s85
        refine RefE.next ?_
        refine RefC.seq ?_
        refine RefC.seq ?_
        refine RefC.region ?_
        refine RefL.pure rfl rfl (RanP.move rfl) ?_
        refine RefL.pure rfl rfl (RanP.neq rfl rfl) ?_
        refine RefL.nil ?_
        refine RefE.next ?_
        refine RefC.cut (enc := fun (s88 : Unit) => ([(7, .slice s85.a s85.n s85.c)] : Env)) ?_ ?_
        · refine RefC.cond rfl ?_ ?_
          · refine RefC.region ?_
            refine RefL.pure rfl rfl (RanP.move rfl) ?_
            refine RefL.pure rfl rfl (RanP.move rfl) ?_
            refine RefL.hv rfl rfl (Hv.call (leg_Leg_fail_ref K a0 x8.2) Try.call33 rfl rfl rfl fun x87 => ?_)
            refine RefL.nil ?_
            exact RefE.fin (s := ()) ⟨rfl, trivial⟩
          · refine RefC.skip ?_
            exact RefE.fin (s := ()) ⟨rfl, trivial⟩
        · intro s88
          refine RefE.next ?_
          refine RefC.seq ?_
          refine RefC.region ?_
          refine RefL.pure rfl rfl (RanP.move rfl) ?_
          refine RefL.pure rfl rfl (RanP.assign rfl) ?_
          refine RefL.nil ?_
          refine RefE.next ?_
          refine RefC.ret ?_
          refine RefE.retV rfl ?_
          refine RefV.tmp rfl ?_
          exact RefV.nil rfl

def ring_Ring_Peek (K : Nat) (a0 : Option Addr) (a1 : Int) : G (Sl) :=
  nn a0 fun x1 =>
  ldI .i64 (x1.add 2) fun x2 =>
  lt (if x2 < (if a1 < (0 : Int) then (0 : Int) else a1) then x2 else (if a1 < (0 : Int) then (0 : Int) else a1)) fun x3 =>
  mk 5 1 1 [.int .u8 (0 : Int)] x3 x3 fun x4 =>
  drw <|
  nn a0 fun x5 =>
  ldSl (x5.add 0) fun x6 =>
  nn a0 fun x7 =>
  ldI .i64 (x7.add 1) fun x8 =>
  slS x6 (some x8) none none 1 fun x9 =>
  cpy 1 x4 x9 fun x10 =>
  drw <|
  slS x4 (some x10) none none 1 fun x11 =>
  nn a0 fun x12 =>
  ldSl (x12.add 0) fun x13 =>
  cpy 1 x11 x13 fun x14 =>
  ret x4
set_option maxRecDepth 100000 in
theorem ring_Ring_Peek_ref (K : Nat) (a0 : Option Addr) (a1 : Int) : Does Try.prog 38 [.pointer a0, .int .i64 a1] (ring_Ring_Peek K a0 a1) (fun r => .slice r.a r.n r.c) := by
  refine Does.of Try.func38 rfl rfl rfl ?_
  unfold ring_Ring_Peek
  refine RefC.seq ?_
  refine RefC.region ?_
  refine RefL.pure rfl rfl (RanP.assign rfl) ?_
  refine RefL.nil ?_
  refine RefE.next ?_
  refine RefC.seq ?_
  refine RefC.region ?_
  refine RefL.pure rfl rfl (RanP.move rfl) ?_
  refine RefL.pure rfl rfl (RanP.max2 rfl) ?_
  refine RefL.pure rfl rfl (RanP.move rfl) ?_
  refine RefL.li rfl rfl (Lt.nn rfl fun x1 => ?_)
  refine RefL.pure rfl rfl (RanP.fieldAddr fa_99_2 rfl) ?_
  refine RefL.li rfl rfl (Lt.ldI Try.isAgg3 rfl fun x2 => ?_)
  refine RefL.pure rfl rfl (RanP.min2 rfl) ?_
  refine RefL.pure rfl rfl (RanP.assign rfl) ?_
  refine RefL.lt 1 (fun y => .int .i64 y) rfl fun x3 => ?_
  refine RefL.nil ?_
  refine RefE.next ?_
  refine RefC.seq ?_
  refine RefC.region ?_
  refine RefL.pure rfl rfl (RanP.move rfl) ?_
  refine RefL.hv rfl rfl (Hv.mk (i := Try.t5) Try.underlying36 rfl rfl rfl rfl rfl rfl fun x4 => ?_)
  refine RefL.pure rfl rfl (RanP.assign rfl) ?_
  refine RefL.nil ?_
  refine RefE.next ?_
  refine RefC.seq ?_
  refine RefC.draw mixed [0, 0, 2, 6, 14, 0, 32, 96, 224, 510, 1023, 2047] [.lp 0, .lp 1, .lp 2, .lp 3, .li 4, .lp 5, .lp 6, .lp 7, .li 8, .lp 9, .hv 10, .lp 11] (by kernel_rfl) ?_
  refine RefD.pure (at_ rfl) rfl (RanP.move rfl) ?_
  refine RefD.pure (at_ rfl) rfl (RanP.move rfl) ?_
  refine RefD.any (at_ rfl) rfl (Lt.nn rfl fun x5 => ?_)
  refine RefD.pure (at_ rfl) rfl (RanP.fieldAddr fa_99_0 rfl) ?_
  refine RefD.li0 (at_ rfl) rfl (Lt.ldSl Try.isAgg36 rfl fun x6 => ?_)
  refine RefD.pure (at_ rfl) rfl (RanP.move rfl) ?_
  refine RefD.any (at_ rfl) rfl (Lt.nn rfl fun x7 => ?_)
  refine RefD.pure (at_ rfl) rfl (RanP.fieldAddr fa_99_1 rfl) ?_
  refine RefD.li0 (at_ rfl) rfl (Lt.ldI Try.isAgg3 rfl fun x8 => ?_)
  refine RefD.any (at_ rfl) rfl (Lt.slS (kl := .i64) (kh := .i64) (km := .i64) Try.underlying36 Try.sizeOf5 rfl rfl rfl rfl (by simp) fun x9 => ?_)
  refine RefD.hv (at_ rfl) rfl (Hv.cpy rfl Try.underlying36 Try.sizeOf5 rfl fun x10 => ?_)
  refine RefD.pure (at_ rfl) rfl (RanP.assign rfl) ?_
  refine RefD.nil ?_
  refine RefE.next ?_
  refine RefC.seq ?_
  refine RefC.draw mixed [0, 0, 3, 0, 8, 24, 56, 127] [.lp 0, .lp 1, .lp 2, .lp 3, .lp 4, .lp 5, .li 6, .hv 7] (by kernel_rfl) ?_
  refine RefD.pure (at_ rfl) rfl (RanP.move rfl) ?_
  refine RefD.pure (at_ rfl) rfl (RanP.move rfl) ?_
  refine RefD.any (at_ rfl) rfl (Lt.slS (kl := .i64) (kh := .i64) (km := .i64) Try.underlying36 Try.sizeOf5 rfl rfl rfl rfl (by simp) fun x11 => ?_)
  refine RefD.pure (at_ rfl) rfl (RanP.move rfl) ?_
  refine RefD.any (at_ rfl) rfl (Lt.nn rfl fun x12 => ?_)
  refine RefD.pure (at_ rfl) rfl (RanP.fieldAddr fa_99_0 rfl) ?_
  refine RefD.li0 (at_ rfl) rfl (Lt.ldSl Try.isAgg36 rfl fun x13 => ?_)
  refine RefD.hv (at_ rfl) rfl (Hv.cpy rfl Try.underlying36 Try.sizeOf5 rfl fun x14 => ?_)
  refine RefD.nil ?_
  refine RefE.next ?_
  refine RefC.seq ?_
  refine RefC.region ?_
  refine RefL.pure rfl rfl (RanP.move rfl) ?_
  refine RefL.pure rfl rfl (RanP.assign rfl) ?_
  refine RefL.nil ?_
  refine RefE.next ?_
  refine RefC.ret ?_
  refine RefE.retV rfl ?_
  refine RefV.tmp rfl ?_
  exact RefV.nil rfl

end Go.Proofs.Ytjdnjlnfcbaokaa

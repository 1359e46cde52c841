/-
  Go functions as programs over the world, and that the model's code does what they say. Printed by gen.py (own work).
-/
import Derived.Test.YtjdnjlnfcbaokaaGreatFn2
set_option linter.unusedVariables false
set_option linter.unusedSimpArgs false
namespace Go.Proofs.YtjdnjlnfcbaokaaGreat
open Go Go.Lg

def frame_Check (K : Nat) (a0 : Tapi_Frame) : G (Int) :=
  new (Agg.cells a0) 61 fun x1 =>
  ldI .i64 (x1.add 1) fun x2 =>
  bnd (frame_known K x2) fun x3 =>
  bnd (
    if (!x3) = true then
      ret true
    else
      ldI .i64 (x1.add 1) fun x5 =>
      bnd (frame_Control K x5) fun x6 =>
      bnd (
        if x6 = true then
          ldB (x1.add 0) fun x8 =>
          bnd (
            if (!x8) = true then
              ret true
            else
              ldS (x1.add 7) fun x10 =>
              ret (decide ((125 : Int) < (x10.size : Int)))) fun (x9 : Bool) =>
          ret x9
        else
          ret false) fun (x7 : Bool) =>
      ret x7) fun (x4 : Bool) =>
  bnd (
    if x4 = true then
      ret true
    else
      ldB (x1.add 2) fun x12 =>
      bnd (
        if (!x12) = true then
          ldG (α := A4u8) (x1.add 3) fun x14 =>
          ret (!A4u8.eqb x14 (A4u8.mk (0 : Int) (0 : Int) (0 : Int) (0 : Int)))
        else
          ret false) fun (x13 : Bool) =>
      ret x13) fun (x11 : Bool) =>
  if x11 = true then
    ret (91 : Int)
  else
    ldS (x1.add 7) fun x15 =>
    lt (decide ((65536 : Int) < (x15.size : Int))) fun x16 =>
    if x16 = true then
      ret (92 : Int)
    else
      ret (0 : Int)
set_option maxRecDepth 100000 in
theorem frame_Check_ref (K : Nat) (a0 : Tapi_Frame) : Does Tryz.prog 139 [.agg (Agg.cells a0).toArray] (frame_Check K a0) (fun r => .int .i64 r) := by
  refine Does.of Tryz.func139 rfl rfl rfl ?_
  unfold frame_Check
  refine RefC.seq ?_
  refine RefC.region ?_
  refine RefL.hv rfl rfl (Hv.box rfl rfl fun x1 => ?_)
  refine RefL.pure rfl rfl (RanP.assign rfl) ?_
  refine RefL.nil ?_
  refine RefE.next ?_
  refine RefC.seq ?_
  refine RefC.block ?_
  refine RefC.seq ?_
  refine RefC.region ?_
  refine RefL.pure rfl rfl (RanP.fieldAddr fa_61_1 rfl) ?_
  refine RefL.li rfl rfl (Lt.ldI Tryz.isAgg3 rfl fun x2 => ?_)
  refine RefL.hv rfl rfl (Hv.call (frame_known_ref K x2) Tryz.call163 rfl rfl rfl fun x3 => ?_)
  refine RefL.pure rfl rfl (RanP.not rfl) ?_
  refine RefL.pure rfl rfl (RanP.move rfl) ?_
  refine RefL.cut (enc := fun (x4 : Bool) => ([(23, .bool x4), (1, .pointer (some x1))] : Env)) 15 ?_ ?_
  · refine RefL.ite (s := 8) rfl ?_ ?_
    · refine RefL.skip rfl rfl ?_
      refine RefL.skip rfl rfl ?_
      refine RefL.skip rfl rfl ?_
      refine RefL.skip rfl rfl ?_
      refine RefL.skip rfl rfl ?_
      refine RefL.skip rfl rfl ?_
      refine RefL.skip rfl rfl ?_
      refine RefL.skip rfl rfl ?_
      refine RefL.skip rfl rfl ?_
      refine RefL.skip rfl rfl ?_
      refine RefL.skip rfl rfl ?_
      refine RefL.skip rfl rfl ?_
      refine RefL.skip rfl rfl ?_
      refine RefL.skip rfl rfl ?_
      refine RefL.pure rfl rfl (RanP.pickT rfl rfl) ?_
      refine RefL.nil ?_
      exact RefE.fin (s := true) ⟨rfl, rfl, trivial⟩
    · refine RefL.pure rfl rfl (RanP.fieldAddr fa_61_1 rfl) ?_
      refine RefL.li rfl rfl (Lt.ldI Tryz.isAgg3 rfl fun x5 => ?_)
      refine RefL.hv rfl rfl (Hv.call (frame_Control_ref K x5) Tryz.call142 rfl rfl rfl fun x6 => ?_)
      refine RefL.pure rfl rfl (RanP.move rfl) ?_
      refine RefL.cut (enc := fun (x7 : Bool) => ([(22, .bool x7), (1, .pointer (some x1)), (8, .bool false)] : Env)) 10 ?_ ?_
      · refine RefL.ite (s := 12) rfl ?_ ?_
        · refine RefL.pure rfl rfl (RanP.fieldAddr fa_61_0 rfl) ?_
          refine RefL.li rfl rfl (Lt.ldB Tryz.isAgg4 rfl fun x8 => ?_)
          refine RefL.pure rfl rfl (RanP.not rfl) ?_
          refine RefL.pure rfl rfl (RanP.move rfl) ?_
          refine RefL.cut (enc := fun (x9 : Bool) => ([(21, .bool x9), (1, .pointer (some x1)), (8, .bool false), (12, .bool true)] : Env)) 5 ?_ ?_
          · refine RefL.ite (s := 16) rfl ?_ ?_
            · refine RefL.skip rfl rfl ?_
              refine RefL.skip rfl rfl ?_
              refine RefL.skip rfl rfl ?_
              refine RefL.skip rfl rfl ?_
              refine RefL.pure rfl rfl (RanP.pickT rfl rfl) ?_
              refine RefL.nil ?_
              exact RefE.fin (s := true) ⟨rfl, rfl, rfl, rfl, trivial⟩
            · refine RefL.pure rfl rfl (RanP.fieldAddr fa_61_4 rfl) ?_
              refine RefL.li rfl rfl (Lt.ldS Tryz.isAgg9 rfl fun x10 => ?_)
              refine RefL.pure rfl rfl (RanP.lenS rfl Tryz.underlying9 rfl) ?_
              refine RefL.pure rfl rfl (RanP.gtr rfl rfl) ?_
              refine RefL.pure rfl rfl (RanP.pickF rfl rfl) ?_
              refine RefL.nil ?_
              exact RefE.fin (s := (decide ((125 : Int) < (x10.size : Int)))) ⟨rfl, rfl, rfl, rfl, trivial⟩
          · intro x9
            refine RefL.pure rfl rfl (RanP.pickT rfl rfl) ?_
            refine RefL.nil ?_
            exact RefE.fin (s := x9) ⟨rfl, rfl, rfl, trivial⟩
        · refine RefL.skip rfl rfl ?_
          refine RefL.skip rfl rfl ?_
          refine RefL.skip rfl rfl ?_
          refine RefL.skip rfl rfl ?_
          refine RefL.skip rfl rfl ?_
          refine RefL.skip rfl rfl ?_
          refine RefL.skip rfl rfl ?_
          refine RefL.skip rfl rfl ?_
          refine RefL.skip rfl rfl ?_
          refine RefL.pure rfl rfl (RanP.pickF rfl rfl) ?_
          refine RefL.nil ?_
          exact RefE.fin (s := false) ⟨rfl, rfl, rfl, trivial⟩
      · intro x7
        refine RefL.pure rfl rfl (RanP.pickF rfl rfl) ?_
        refine RefL.nil ?_
        exact RefE.fin (s := x7) ⟨rfl, rfl, trivial⟩
  · intro x4
    refine RefL.pure rfl rfl (RanP.move rfl) ?_
    refine RefL.cut (enc := fun (x11 : Bool) => ([(34, .bool x11), (1, .pointer (some x1))] : Env)) 10 ?_ ?_
    · refine RefL.ite (s := 24) rfl ?_ ?_
      · refine RefL.skip rfl rfl ?_
        refine RefL.skip rfl rfl ?_
        refine RefL.skip rfl rfl ?_
        refine RefL.skip rfl rfl ?_
        refine RefL.skip rfl rfl ?_
        refine RefL.skip rfl rfl ?_
        refine RefL.skip rfl rfl ?_
        refine RefL.skip rfl rfl ?_
        refine RefL.skip rfl rfl ?_
        refine RefL.pure rfl rfl (RanP.pickT rfl rfl) ?_
        refine RefL.nil ?_
        exact RefE.fin (s := true) ⟨rfl, rfl, trivial⟩
      · refine RefL.pure rfl rfl (RanP.fieldAddr fa_61_2 rfl) ?_
        refine RefL.li rfl rfl (Lt.ldB Tryz.isAgg4 rfl fun x12 => ?_)
        refine RefL.pure rfl rfl (RanP.not rfl) ?_
        refine RefL.pure rfl rfl (RanP.move rfl) ?_
        refine RefL.cut (enc := fun (x13 : Bool) => ([(33, .bool x13), (1, .pointer (some x1)), (24, .bool false)] : Env)) 5 ?_ ?_
        · refine RefL.ite (s := 28) rfl ?_ ?_
          · refine RefL.pure rfl rfl (RanP.fieldAddr fa_61_3 rfl) ?_
            refine RefL.li rfl rfl (Lt.ldG (τ := A4u8) Tryz.isAgg59 Tryz.sizeOf59 rfl fun x14 => ?_)
            refine RefL.pure rfl rfl (RanP.build rfl (v := .agg (Agg.cells (A4u8.mk (0 : Int) (0 : Int) (0 : Int) (0 : Int))).toArray) (fun _ => by kernel_rfl)) ?_
            refine RefL.pure rfl rfl (RanP.neqA (ne_59_run x14 (A4u8.mk (0 : Int) (0 : Int) (0 : Int) (0 : Int))) rfl rfl) ?_
            refine RefL.pure rfl rfl (RanP.pickT rfl rfl) ?_
            refine RefL.nil ?_
            exact RefE.fin (s := (!A4u8.eqb x14 (A4u8.mk (0 : Int) (0 : Int) (0 : Int) (0 : Int)))) ⟨rfl, rfl, rfl, trivial⟩
          · refine RefL.skip rfl rfl ?_
            refine RefL.skip rfl rfl ?_
            refine RefL.skip rfl rfl ?_
            refine RefL.skip rfl rfl ?_
            refine RefL.pure rfl rfl (RanP.pickF rfl rfl) ?_
            refine RefL.nil ?_
            exact RefE.fin (s := false) ⟨rfl, rfl, rfl, trivial⟩
        · intro x13
          refine RefL.pure rfl rfl (RanP.pickF rfl rfl) ?_
          refine RefL.nil ?_
          exact RefE.fin (s := x13) ⟨rfl, rfl, trivial⟩
    · intro x11
      refine RefL.pure rfl rfl (RanP.assign rfl) ?_
      refine RefL.nil ?_
      refine RefE.next ?_
      refine RefC.cond rfl ?_ ?_
      · refine RefC.seq ?_
        refine RefC.region ?_
        refine RefL.pure rfl rfl (RanP.assign rfl) ?_
        refine RefL.nil ?_
        refine RefE.next ?_
        refine RefC.ret ?_
        refine RefE.blockRet ?_
        refine RefE.thenRet ?_
        refine RefE.retV rfl ?_
        refine RefV.tmp rfl ?_
        exact RefV.nil rfl
      · refine RefC.seq ?_
        refine RefC.region ?_
        refine RefL.pure rfl rfl (RanP.fieldAddr fa_61_4 rfl) ?_
        refine RefL.li rfl rfl (Lt.ldS Tryz.isAgg9 rfl fun x15 => ?_)
        refine RefL.pure rfl rfl (RanP.lenS rfl Tryz.underlying9 rfl) ?_
        refine RefL.pure rfl rfl (RanP.gtr rfl rfl) ?_
        refine RefL.pure rfl rfl (RanP.assign rfl) ?_
        refine RefL.lt 35 (fun y => .bool y) rfl fun x16 => ?_
        refine RefL.nil ?_
        refine RefE.next ?_
        refine RefC.cond rfl ?_ ?_
        · refine RefC.seq ?_
          refine RefC.region ?_
          refine RefL.pure rfl rfl (RanP.assign rfl) ?_
          refine RefL.nil ?_
          refine RefE.next ?_
          refine RefC.ret ?_
          refine RefE.blockRet ?_
          refine RefE.thenRet ?_
          refine RefE.retV rfl ?_
          refine RefV.tmp rfl ?_
          exact RefV.nil rfl
        · refine RefC.skip ?_
          refine RefE.blockNormal ?_
          refine RefE.next ?_
          refine RefC.seq ?_
          refine RefC.region ?_
          refine RefL.pure rfl rfl (RanP.assign rfl) ?_
          refine RefL.nil ?_
          refine RefE.next ?_
          refine RefC.ret ?_
          refine RefE.retV rfl ?_
          refine RefV.tmp rfl ?_
          exact RefV.nil rfl

def msg_Machine_stop (K : Nat) (a0 : Option Addr) (a1 : Int) : G (Tapi_Event × Bool × Int) :=
  new [.int .i64 (0 : Int), .int .i64 (0 : Int), .string (ByteArray.mk #[])] 52 fun x1 =>
  nn a0 fun x2 =>
  st (x2.add 5) (.int .i64 a1) <|
  nn a0 fun x3 =>
  st (x3.add 1) (.int .i64 (0 : Int)) <|
  nn a0 fun x4 =>
  st (x4.add 2) (.slice Sl.nil.a Sl.nil.n Sl.nil.c) <|
  st x1 (.agg (Agg.cells (Tapi_Event.mk (0 : Int) (0 : Int) (ByteArray.mk #[]))).toArray) <|
  ldG (α := Tapi_Event) x1 fun r5 =>
  ret (r5, false, a1)
set_option maxRecDepth 100000 in
theorem msg_Machine_stop_ref (K : Nat) (a0 : Option Addr) (a1 : Int) : Does Tryz.prog 140 [.pointer a0, .int .i64 a1] (msg_Machine_stop K a0 a1) (fun r => .tuple #[.agg (Agg.cells r.1).toArray, .bool r.2.1, .int .i64 r.2.2]) := by
  refine Does.of Tryz.func140 rfl rfl rfl ?_
  unfold msg_Machine_stop
  refine RefC.seq ?_
  refine RefC.region ?_
  refine RefL.hv rfl rfl (Hv.newZ Tryz.zeroValue52 rfl fun x1 => ?_)
  refine RefL.pure rfl rfl (RanP.assign rfl) ?_
  refine RefL.pure rfl rfl (RanP.assign rfl) ?_
  refine RefL.nil ?_
  refine RefE.next ?_
  refine RefC.seq ?_
  refine RefC.region ?_
  refine RefL.pure rfl rfl (RanP.move rfl) ?_
  refine RefL.pure rfl rfl (RanP.move rfl) ?_
  refine RefL.pure rfl rfl (RanP.move rfl) ?_
  refine RefL.pure rfl rfl (RanP.move rfl) ?_
  refine RefL.li rfl rfl (Lt.nn rfl fun x2 => ?_)
  refine RefL.pure rfl rfl (RanP.fieldAddr fa_163_5 rfl) ?_
  refine RefL.hv rfl rfl (Hv.st Tryz.sizeOf31 rfl rfl rfl ?_)
  refine RefL.li rfl rfl (Lt.nn rfl fun x3 => ?_)
  refine RefL.pure rfl rfl (RanP.fieldAddr fa_163_1 rfl) ?_
  refine RefL.hv rfl rfl (Hv.st Tryz.sizeOf3 rfl rfl rfl ?_)
  refine RefL.li rfl rfl (Lt.nn rfl fun x4 => ?_)
  refine RefL.pure rfl rfl (RanP.fieldAddr fa_163_2 rfl) ?_
  refine RefL.hv rfl rfl (Hv.st Tryz.sizeOf49 rfl rfl rfl ?_)
  refine RefL.nil ?_
  refine RefE.next ?_
  refine RefC.seq ?_
  refine RefC.region ?_
  refine RefL.pure rfl rfl (RanP.build rfl (v := .agg (Agg.cells (Tapi_Event.mk (0 : Int) (0 : Int) (ByteArray.mk #[]))).toArray) (fun _ => by kernel_rfl)) ?_
  refine RefL.pure rfl rfl (RanP.move rfl) ?_
  refine RefL.hv rfl rfl (Hv.st Tryz.sizeOf52 rfl rfl rfl ?_)
  refine RefL.pure rfl rfl (RanP.assign rfl) ?_
  refine RefL.pure rfl rfl (RanP.assign rfl) ?_
  refine RefL.nil ?_
  refine RefE.next ?_
  refine RefC.ret ?_
  refine RefE.retV rfl ?_
  refine RefV.cellG Tryz.isAgg52 Tryz.sizeOf52 rfl fun r5 => ?_
  refine RefV.tmp rfl ?_
  refine RefV.tmp rfl ?_
  exact RefV.nil rfl

def close_Valid_1 (K : Nat) (a0 : Int) (a1 : Int) (a2 : Addr) : G (Bool) :=
  ldI .i64 a2 fun x1 =>
  bnd (
    if (decide (a0 ≤ x1)) = true then
      ldI .i64 a2 fun x3 =>
      ret (decide (x3 ≤ a1))
    else
      ret false) fun (x2 : Bool) =>
  ret x2
set_option maxRecDepth 100000 in
theorem close_Valid_1_ref (K : Nat) (a0 : Int) (a1 : Int) (a2 : Addr) : Does Tryz.prog 153 [.int .i64 a0, .int .i64 a1, .pointer (some a2)] (close_Valid_1 K a0 a1 a2) (fun r => .bool r) := by
  refine Does.of Tryz.func153 rfl rfl rfl ?_
  unfold close_Valid_1
  refine RefC.seq ?_
  refine RefC.region ?_
  refine RefL.pure rfl rfl (RanP.assign rfl) ?_
  refine RefL.nil ?_
  refine RefE.next ?_
  refine RefC.seq ?_
  refine RefC.region ?_
  refine RefL.li rfl rfl (Lt.ldI Tryz.isAgg3 rfl fun x1 => ?_)
  refine RefL.pure rfl rfl (RanP.move rfl) ?_
  refine RefL.pure rfl rfl (RanP.geq rfl rfl) ?_
  refine RefL.pure rfl rfl (RanP.move rfl) ?_
  refine RefL.cut (enc := fun (x2 : Bool) => ([(13, .bool x2)] : Env)) 4 ?_ ?_
  · refine RefL.ite (s := 9) rfl ?_ ?_
    · refine RefL.li rfl rfl (Lt.ldI Tryz.isAgg3 rfl fun x3 => ?_)
      refine RefL.pure rfl rfl (RanP.move rfl) ?_
      refine RefL.pure rfl rfl (RanP.leq rfl rfl) ?_
      refine RefL.pure rfl rfl (RanP.pickT rfl rfl) ?_
      refine RefL.nil ?_
      exact RefE.fin (s := (decide (x3 ≤ a1))) ⟨rfl, trivial⟩
    · refine RefL.skip rfl rfl ?_
      refine RefL.skip rfl rfl ?_
      refine RefL.skip rfl rfl ?_
      refine RefL.pure rfl rfl (RanP.pickF rfl rfl) ?_
      refine RefL.nil ?_
      exact RefE.fin (s := false) ⟨rfl, trivial⟩
  · intro x2
    refine RefL.pure rfl rfl (RanP.assign rfl) ?_
    refine RefL.nil ?_
    refine RefE.next ?_
    refine RefC.ret ?_
    refine RefE.retV rfl ?_
    refine RefV.tmp rfl ?_
    exact RefV.nil rfl

def close_Valid (K : Nat) (a0 : Int) : G (Bool) :=
  new [.int .i64 a0] 3 fun x1 =>
  bnd (close_Valid_1 K (1000 : Int) (1003 : Int) x1) fun x2 =>
  bnd (
    if x2 = true then
      ret true
    else
      bnd (close_Valid_1 K (1007 : Int) (1011 : Int) x1) fun x4 =>
      ret x4) fun (x3 : Bool) =>
  bnd (
    if x3 = true then
      ret true
    else
      bnd (close_Valid_1 K (3000 : Int) (4999 : Int) x1) fun x6 =>
      ret x6) fun (x5 : Bool) =>
  ret x5
set_option maxRecDepth 100000 in
theorem close_Valid_ref (K : Nat) (a0 : Int) : Does Tryz.prog 119 [.int .i64 a0] (close_Valid K a0) (fun r => .bool r) := by
  refine Does.of Tryz.func119 rfl rfl rfl ?_
  unfold close_Valid
  refine RefC.seq ?_
  refine RefC.region ?_
  refine RefL.hv rfl rfl (Hv.box rfl rfl fun x1 => ?_)
  refine RefL.pure rfl rfl (RanP.assign rfl) ?_
  refine RefL.nil ?_
  refine RefE.next ?_
  refine RefC.seq ?_
  refine RefC.region ?_
  refine RefL.pure rfl rfl (RanP.makeFunc rfl rfl) ?_
  refine RefL.pure rfl rfl (RanP.assign rfl) ?_
  refine RefL.nil ?_
  refine RefE.next ?_
  refine RefC.seq ?_
  refine RefC.region ?_
  refine RefL.pure rfl rfl (RanP.move rfl) ?_
  refine RefL.hv rfl rfl (Hv.call (close_Valid_1_ref K (1000 : Int) (1003 : Int) x1) Tryz.call153 rfl rfl rfl fun x2 => ?_)
  refine RefL.pure rfl rfl (RanP.move rfl) ?_
  refine RefL.cut (enc := fun (x3 : Bool) => ([(10, .bool x3), (3, .func (.func 153) #[] #[.pointer (some x1)])] : Env)) 3 ?_ ?_
  · refine RefL.ite (s := 7) rfl ?_ ?_
    · refine RefL.skip rfl rfl ?_
      refine RefL.skip rfl rfl ?_
      refine RefL.pure rfl rfl (RanP.pickT rfl rfl) ?_
      refine RefL.nil ?_
      exact RefE.fin (s := true) ⟨rfl, rfl, trivial⟩
    · refine RefL.pure rfl rfl (RanP.move rfl) ?_
      refine RefL.hv rfl rfl (Hv.call (close_Valid_1_ref K (1007 : Int) (1011 : Int) x1) Tryz.call153 rfl rfl rfl fun x4 => ?_)
      refine RefL.pure rfl rfl (RanP.pickF rfl rfl) ?_
      refine RefL.nil ?_
      exact RefE.fin (s := x4) ⟨rfl, rfl, trivial⟩
  · intro x3
    refine RefL.pure rfl rfl (RanP.move rfl) ?_
    refine RefL.cut (enc := fun (x5 : Bool) => ([(14, .bool x5)] : Env)) 3 ?_ ?_
    · refine RefL.ite (s := 11) rfl ?_ ?_
      · refine RefL.skip rfl rfl ?_
        refine RefL.skip rfl rfl ?_
        refine RefL.pure rfl rfl (RanP.pickT rfl rfl) ?_
        refine RefL.nil ?_
        exact RefE.fin (s := true) ⟨rfl, trivial⟩
      · refine RefL.pure rfl rfl (RanP.move rfl) ?_
        refine RefL.hv rfl rfl (Hv.call (close_Valid_1_ref K (3000 : Int) (4999 : Int) x1) Tryz.call153 rfl rfl rfl fun x6 => ?_)
        refine RefL.pure rfl rfl (RanP.pickF rfl rfl) ?_
        refine RefL.nil ?_
        exact RefE.fin (s := x6) ⟨rfl, trivial⟩
    · intro x5
      refine RefL.pure rfl rfl (RanP.assign rfl) ?_
      refine RefL.nil ?_
      refine RefE.next ?_
      refine RefC.ret ?_
      refine RefE.retV rfl ?_
      refine RefV.tmp rfl ?_
      exact RefV.nil rfl

def utf_Checker_begin (K : Nat) (a0 : Option Addr) (a1 : Int) : G (Bool) :=
  nn a0 fun x1 =>
  st (x1.add 1) (.agg (Agg.cells (A2u8.mk (128 : Int) (191 : Int))).toArray) <|
  lt (decide (a1 < (128 : Int))) fun x2 =>
  if x2 = true then
    nn a0 fun x3 =>
    ldI .i64 (x3.add 3) fun x4 =>
    nn a0 fun x5 =>
    st (x5.add 3) (.int .i64 (IntKind.wrap .i64 (x4 + (1 : Int)))) <|
    ret true
  else
    bnd (
      if (decide ((194 : Int) ≤ a1)) = true then
        ret (decide (a1 ≤ (223 : Int)))
      else
        ret false) fun (x6 : Bool) =>
    bnd (
      if x6 = true then
        nn a0 fun x12 =>
        st (x12.add 0) (.int .i64 (1 : Int)) <|
        ret (.inl ())
      else
        bnd (
          if (decide ((224 : Int) ≤ a1)) = true then
            ret (decide (a1 ≤ (239 : Int)))
          else
            ret false) fun (x13 : Bool) =>
        if x13 = true then
          nn a0 fun x14 =>
          st (x14.add 0) (.int .i64 (2 : Int)) <|
          ret (.inl ())
        else
          bnd (
            if (decide ((240 : Int) ≤ a1)) = true then
              ret (decide (a1 ≤ (244 : Int)))
            else
              ret false) fun (x15 : Bool) =>
          if x15 = true then
            nn a0 fun x16 =>
            st (x16.add 0) (.int .i64 (3 : Int)) <|
            ret (.inl ())
          else
            inr (ret false)) (sumK fun (s17 : Unit) =>
    lt (a1 == (224 : Int)) fun x18 =>
    bnd (
      if x18 = true then
        nn a0 fun x26 =>
        st ((x26.add 1).add ((0 : Int).toNat * 1)) (.int .u8 (160 : Int)) <|
        ret ()
      else
        lt (a1 == (237 : Int)) fun x27 =>
        if x27 = true then
          nn a0 fun x28 =>
          st ((x28.add 1).add ((1 : Int).toNat * 1)) (.int .u8 (159 : Int)) <|
          ret ()
        else
          lt (a1 == (240 : Int)) fun x29 =>
          if x29 = true then
            nn a0 fun x30 =>
            st ((x30.add 1).add ((0 : Int).toNat * 1)) (.int .u8 (144 : Int)) <|
            ret ()
          else
            lt (a1 == (244 : Int)) fun x31 =>
            if x31 = true then
              nn a0 fun x32 =>
              st ((x32.add 1).add ((1 : Int).toNat * 1)) (.int .u8 (143 : Int)) <|
              ret ()
            else
              ret ()) fun (s33 : Unit) =>
    ret true)
set_option maxRecDepth 100000 in
theorem utf_Checker_begin_ref (K : Nat) (a0 : Option Addr) (a1 : Int) : Does Tryz.prog 187 [.pointer a0, .int .u8 a1] (utf_Checker_begin K a0 a1) (fun r => .bool r) := by
  refine Does.of Tryz.func187 rfl rfl rfl ?_
  unfold utf_Checker_begin
  refine RefC.seq ?_
  refine RefC.region ?_
  refine RefL.pure rfl rfl (RanP.assign rfl) ?_
  refine RefL.nil ?_
  refine RefE.next ?_
  refine RefC.seq ?_
  refine RefC.region ?_
  refine RefL.pure rfl rfl (RanP.move rfl) ?_
  refine RefL.pure rfl rfl (RanP.build rfl (v := .agg (Agg.cells (A2u8.mk (128 : Int) (191 : Int))).toArray) (fun _ => by kernel_rfl)) ?_
  refine RefL.li rfl rfl (Lt.nn rfl fun x1 => ?_)
  refine RefL.pure rfl rfl (RanP.fieldAddr fa_200_1 rfl) ?_
  refine RefL.hv rfl rfl (Hv.st Tryz.sizeOf198 rfl rfl rfl ?_)
  refine RefL.nil ?_
  refine RefE.next ?_
  refine RefC.seq ?_
  refine RefC.block ?_
  refine RefC.seq ?_
  refine RefC.region ?_
  refine RefL.pure rfl rfl (RanP.move rfl) ?_
  refine RefL.pure rfl rfl (RanP.lss rfl rfl) ?_
  refine RefL.pure rfl rfl (RanP.assign rfl) ?_
  refine RefL.lt 9 (fun y => .bool y) rfl fun x2 => ?_
  refine RefL.nil ?_
  refine RefE.next ?_
  refine RefC.cond rfl ?_ ?_
  · refine RefC.seq ?_
    refine RefC.region ?_
    refine RefL.pure rfl rfl (RanP.move rfl) ?_
    refine RefL.li rfl rfl (Lt.nn rfl fun x3 => ?_)
    refine RefL.pure rfl rfl (RanP.fieldAddr fa_200_2 rfl) ?_
    refine RefL.li rfl rfl (Lt.ldI Tryz.isAgg3 rfl fun x4 => ?_)
    refine RefL.pure rfl rfl (RanP.add rfl rfl) ?_
    refine RefL.li rfl rfl (Lt.nn rfl fun x5 => ?_)
    refine RefL.pure rfl rfl (RanP.fieldAddr fa_200_2 rfl) ?_
    refine RefL.hv rfl rfl (Hv.st Tryz.sizeOf3 rfl rfl rfl ?_)
    refine RefL.nil ?_
    refine RefE.next ?_
    refine RefC.seq ?_
    refine RefC.region ?_
    refine RefL.pure rfl rfl (RanP.assign rfl) ?_
    refine RefL.nil ?_
    refine RefE.next ?_
    refine RefC.ret ?_
    refine RefE.blockRet ?_
    refine RefE.thenRet ?_
    refine RefE.retV rfl ?_
    refine RefV.tmp rfl ?_
    exact RefV.nil rfl
  · refine RefC.seq ?_
    refine RefC.region ?_
    refine RefL.pure rfl rfl (RanP.move rfl) ?_
    refine RefL.pure rfl rfl (RanP.geq rfl rfl) ?_
    refine RefL.pure rfl rfl (RanP.move rfl) ?_
    refine RefL.cut (enc := fun (x6 : Bool) => ([(25, .bool x6), (0, .pointer a0), (1, .int .u8 a1)] : Env)) 3 ?_ ?_
    · refine RefL.ite (s := 22) rfl ?_ ?_
      · refine RefL.pure rfl rfl (RanP.move rfl) ?_
        refine RefL.pure rfl rfl (RanP.leq rfl rfl) ?_
        refine RefL.pure rfl rfl (RanP.pickT rfl rfl) ?_
        refine RefL.nil ?_
        exact RefE.fin (s := (decide (a1 ≤ (223 : Int)))) ⟨rfl, rfl, rfl, trivial⟩
      · refine RefL.skip rfl rfl ?_
        refine RefL.skip rfl rfl ?_
        refine RefL.pure rfl rfl (RanP.pickF rfl rfl) ?_
        refine RefL.nil ?_
        exact RefE.fin (s := false) ⟨rfl, rfl, rfl, trivial⟩
    · intro x6
      refine RefL.pure rfl rfl (RanP.assign rfl) ?_
      refine RefL.nil ?_
      refine RefE.next ?_
      refine RefC.cutSum (enc := fun (s17 : Unit) => ([(0, .pointer a0), (1, .int .u8 a1)] : Env)) (KBlock.mono (KThen.mono KRet.mono)) ?_ ?_
      · refine RefC.cond rfl ?_ ?_
        · refine RefC.region ?_
          refine RefL.pure rfl rfl (RanP.move rfl) ?_
          refine RefL.li rfl rfl (Lt.nn rfl fun x12 => ?_)
          refine RefL.pure rfl rfl (RanP.fieldAddr fa_200_0 rfl) ?_
          refine RefL.hv rfl rfl (Hv.st Tryz.sizeOf3 rfl rfl rfl ?_)
          refine RefL.nil ?_
          exact RefE.finL (s := ()) ⟨rfl, rfl, trivial⟩
        · refine RefC.seq ?_
          refine RefC.region ?_
          refine RefL.pure rfl rfl (RanP.move rfl) ?_
          refine RefL.pure rfl rfl (RanP.geq rfl rfl) ?_
          refine RefL.pure rfl rfl (RanP.move rfl) ?_
          refine RefL.cut (enc := fun (x13 : Bool) => ([(35, .bool x13), (0, .pointer a0), (1, .int .u8 a1)] : Env)) 3 ?_ ?_
          · refine RefL.ite (s := 32) rfl ?_ ?_
            · refine RefL.pure rfl rfl (RanP.move rfl) ?_
              refine RefL.pure rfl rfl (RanP.leq rfl rfl) ?_
              refine RefL.pure rfl rfl (RanP.pickT rfl rfl) ?_
              refine RefL.nil ?_
              exact RefE.fin (s := (decide (a1 ≤ (239 : Int)))) ⟨rfl, rfl, rfl, trivial⟩
            · refine RefL.skip rfl rfl ?_
              refine RefL.skip rfl rfl ?_
              refine RefL.pure rfl rfl (RanP.pickF rfl rfl) ?_
              refine RefL.nil ?_
              exact RefE.fin (s := false) ⟨rfl, rfl, rfl, trivial⟩
          · intro x13
            refine RefL.pure rfl rfl (RanP.assign rfl) ?_
            refine RefL.nil ?_
            refine RefE.next ?_
            refine RefC.cond rfl ?_ ?_
            · refine RefC.region ?_
              refine RefL.pure rfl rfl (RanP.move rfl) ?_
              refine RefL.li rfl rfl (Lt.nn rfl fun x14 => ?_)
              refine RefL.pure rfl rfl (RanP.fieldAddr fa_200_0 rfl) ?_
              refine RefL.hv rfl rfl (Hv.st Tryz.sizeOf3 rfl rfl rfl ?_)
              refine RefL.nil ?_
              exact RefE.finL (s := ()) ⟨rfl, rfl, trivial⟩
            · refine RefC.seq ?_
              refine RefC.region ?_
              refine RefL.pure rfl rfl (RanP.move rfl) ?_
              refine RefL.pure rfl rfl (RanP.geq rfl rfl) ?_
              refine RefL.pure rfl rfl (RanP.move rfl) ?_
              refine RefL.cut (enc := fun (x15 : Bool) => ([(45, .bool x15), (0, .pointer a0), (1, .int .u8 a1)] : Env)) 3 ?_ ?_
              · refine RefL.ite (s := 42) rfl ?_ ?_
                · refine RefL.pure rfl rfl (RanP.move rfl) ?_
                  refine RefL.pure rfl rfl (RanP.leq rfl rfl) ?_
                  refine RefL.pure rfl rfl (RanP.pickT rfl rfl) ?_
                  refine RefL.nil ?_
                  exact RefE.fin (s := (decide (a1 ≤ (244 : Int)))) ⟨rfl, rfl, rfl, trivial⟩
                · refine RefL.skip rfl rfl ?_
                  refine RefL.skip rfl rfl ?_
                  refine RefL.pure rfl rfl (RanP.pickF rfl rfl) ?_
                  refine RefL.nil ?_
                  exact RefE.fin (s := false) ⟨rfl, rfl, rfl, trivial⟩
              · intro x15
                refine RefL.pure rfl rfl (RanP.assign rfl) ?_
                refine RefL.nil ?_
                refine RefE.next ?_
                refine RefC.cond rfl ?_ ?_
                · refine RefC.region ?_
                  refine RefL.pure rfl rfl (RanP.move rfl) ?_
                  refine RefL.li rfl rfl (Lt.nn rfl fun x16 => ?_)
                  refine RefL.pure rfl rfl (RanP.fieldAddr fa_200_0 rfl) ?_
                  refine RefL.hv rfl rfl (Hv.st Tryz.sizeOf3 rfl rfl rfl ?_)
                  refine RefL.nil ?_
                  exact RefE.finL (s := ()) ⟨rfl, rfl, trivial⟩
                · refine RefC.seq ?_
                  refine RefC.region ?_
                  refine RefL.pure rfl rfl (RanP.assign rfl) ?_
                  refine RefL.nil ?_
                  refine RefE.next ?_
                  refine RefC.ret ?_
                  refine RefE.finR ?_
                  refine RefE.blockRet ?_
                  refine RefE.thenRet ?_
                  refine RefE.retV rfl ?_
                  refine RefV.tmp rfl ?_
                  exact RefV.nil rfl
      · intro s17
        refine RefE.blockNormal ?_
        refine RefE.next ?_
        refine RefC.seq ?_
        refine RefC.seq ?_
        refine RefC.region ?_
        refine RefL.pure rfl rfl (RanP.move rfl) ?_
        refine RefL.nil ?_
        refine RefE.next ?_
        refine RefC.block ?_
        refine RefC.seq ?_
        refine RefC.region ?_
        refine RefL.pure rfl rfl (RanP.eql rfl rfl) ?_
        refine RefL.pure rfl rfl (RanP.assign rfl) ?_
        refine RefL.lt 50 (fun y => .bool y) rfl fun x18 => ?_
        refine RefL.nil ?_
        refine RefE.next ?_
        refine RefC.cut (enc := fun (s33 : Unit) => ([] : Env)) ?_ ?_
        · refine RefC.cond rfl ?_ ?_
          · refine RefC.region ?_
            refine RefL.pure rfl rfl (RanP.move rfl) ?_
            refine RefL.li rfl rfl (Lt.nn rfl fun x26 => ?_)
            refine RefL.pure rfl rfl (RanP.fieldAddr fa_200_1 rfl) ?_
            refine RefL.pure rfl rfl (RanP.ixArr (len := 2) (by decide) Tryz.underlying198 Tryz.sizeOf5 rfl rfl) ?_
            refine RefL.hv rfl rfl (Hv.st Tryz.sizeOf5 rfl rfl rfl ?_)
            refine RefL.nil ?_
            exact RefE.fin (s := ()) trivial
          · refine RefC.seq ?_
            refine RefC.region ?_
            refine RefL.pure rfl rfl (RanP.eql rfl rfl) ?_
            refine RefL.pure rfl rfl (RanP.assign rfl) ?_
            refine RefL.lt 56 (fun y => .bool y) rfl fun x27 => ?_
            refine RefL.nil ?_
            refine RefE.next ?_
            refine RefC.cond rfl ?_ ?_
            · refine RefC.region ?_
              refine RefL.pure rfl rfl (RanP.move rfl) ?_
              refine RefL.li rfl rfl (Lt.nn rfl fun x28 => ?_)
              refine RefL.pure rfl rfl (RanP.fieldAddr fa_200_1 rfl) ?_
              refine RefL.pure rfl rfl (RanP.ixArr (len := 2) (by decide) Tryz.underlying198 Tryz.sizeOf5 rfl rfl) ?_
              refine RefL.hv rfl rfl (Hv.st Tryz.sizeOf5 rfl rfl rfl ?_)
              refine RefL.nil ?_
              exact RefE.fin (s := ()) trivial
            · refine RefC.seq ?_
              refine RefC.region ?_
              refine RefL.pure rfl rfl (RanP.eql rfl rfl) ?_
              refine RefL.pure rfl rfl (RanP.assign rfl) ?_
              refine RefL.lt 62 (fun y => .bool y) rfl fun x29 => ?_
              refine RefL.nil ?_
              refine RefE.next ?_
              refine RefC.cond rfl ?_ ?_
              · refine RefC.region ?_
                refine RefL.pure rfl rfl (RanP.move rfl) ?_
                refine RefL.li rfl rfl (Lt.nn rfl fun x30 => ?_)
                refine RefL.pure rfl rfl (RanP.fieldAddr fa_200_1 rfl) ?_
                refine RefL.pure rfl rfl (RanP.ixArr (len := 2) (by decide) Tryz.underlying198 Tryz.sizeOf5 rfl rfl) ?_
                refine RefL.hv rfl rfl (Hv.st Tryz.sizeOf5 rfl rfl rfl ?_)
                refine RefL.nil ?_
                exact RefE.fin (s := ()) trivial
              · refine RefC.seq ?_
                refine RefC.region ?_
                refine RefL.pure rfl rfl (RanP.eql rfl rfl) ?_
                refine RefL.pure rfl rfl (RanP.assign rfl) ?_
                refine RefL.lt 68 (fun y => .bool y) rfl fun x31 => ?_
                refine RefL.nil ?_
                refine RefE.next ?_
                refine RefC.cond rfl ?_ ?_
                · refine RefC.region ?_
                  refine RefL.pure rfl rfl (RanP.move rfl) ?_
                  refine RefL.li rfl rfl (Lt.nn rfl fun x32 => ?_)
                  refine RefL.pure rfl rfl (RanP.fieldAddr fa_200_1 rfl) ?_
                  refine RefL.pure rfl rfl (RanP.ixArr (len := 2) (by decide) Tryz.underlying198 Tryz.sizeOf5 rfl rfl) ?_
                  refine RefL.hv rfl rfl (Hv.st Tryz.sizeOf5 rfl rfl rfl ?_)
                  refine RefL.nil ?_
                  exact RefE.fin (s := ()) trivial
                · refine RefC.skip ?_
                  exact RefE.fin (s := ()) trivial
        · intro s33
          refine RefE.blockNormal ?_
          refine RefE.next ?_
          refine RefC.seq ?_
          refine RefC.region ?_
          refine RefL.pure rfl rfl (RanP.assign rfl) ?_
          refine RefL.nil ?_
          refine RefE.next ?_
          refine RefC.ret ?_
          refine RefE.retV rfl ?_
          refine RefV.tmp rfl ?_
          exact RefV.nil rfl

def utf_Checker_take (K : Nat) (a0 : Option Addr) (a1 : Int) : G (Bool) :=
  nn a0 fun x1 =>
  ldI .i64 (x1.add 0) fun x2 =>
  if (x2 == (0 : Int)) = true then
    bnd (utf_Checker_begin K a0 a1) fun x3 =>
    ret x3
  else
    nn a0 fun x4 =>
    ldI .u8 ((x4.add 1).add ((0 : Int).toNat * 1)) fun x5 =>
    bnd (
      if (decide (a1 < x5)) = true then
        ret true
      else
        nn a0 fun x7 =>
        ldI .u8 ((x7.add 1).add ((1 : Int).toNat * 1)) fun x8 =>
        ret (decide (x8 < a1))) fun (x6 : Bool) =>
    if x6 = true then
      ret false
    else
      nn a0 fun x9 =>
      st (x9.add 1) (.agg (Agg.cells (A2u8.mk (128 : Int) (191 : Int))).toArray) <|
      nn a0 fun x10 =>
      ldI .i64 (x10.add 0) fun x11 =>
      nn a0 fun x12 =>
      st (x12.add 0) (.int .i64 (IntKind.wrap .i64 (x11 - (1 : Int)))) <|
      nn a0 fun x13 =>
      ldI .i64 (x13.add 0) fun x14 =>
      bnd (
        if (x14 == (0 : Int)) = true then
          nn a0 fun x18 =>
          ldI .i64 (x18.add 3) fun x19 =>
          nn a0 fun x20 =>
          st (x20.add 3) (.int .i64 (IntKind.wrap .i64 (x19 + (1 : Int)))) <|
          ret ()
        else
          ret ()) fun (s21 : Unit) =>
      ret true
set_option maxRecDepth 100000 in
theorem utf_Checker_take_ref (K : Nat) (a0 : Option Addr) (a1 : Int) : Does Tryz.prog 181 [.pointer a0, .int .u8 a1] (utf_Checker_take K a0 a1) (fun r => .bool r) := by
  refine Does.of Tryz.func181 rfl rfl rfl ?_
  unfold utf_Checker_take
  refine RefC.seq ?_
  refine RefC.region ?_
  refine RefL.pure rfl rfl (RanP.assign rfl) ?_
  refine RefL.nil ?_
  refine RefE.next ?_
  refine RefC.seq ?_
  refine RefC.seq ?_
  refine RefC.region ?_
  refine RefL.pure rfl rfl (RanP.move rfl) ?_
  refine RefL.li rfl rfl (Lt.nn rfl fun x1 => ?_)
  refine RefL.pure rfl rfl (RanP.fieldAddr fa_200_0 rfl) ?_
  refine RefL.li rfl rfl (Lt.ldI Tryz.isAgg3 rfl fun x2 => ?_)
  refine RefL.pure rfl rfl (RanP.eql rfl rfl) ?_
  refine RefL.nil ?_
  refine RefE.next ?_
  refine RefC.cond rfl ?_ ?_
  · refine RefC.seq ?_
    refine RefC.region ?_
    refine RefL.pure rfl rfl (RanP.move rfl) ?_
    refine RefL.pure rfl rfl (RanP.move rfl) ?_
    refine RefL.hv rfl rfl (Hv.call (utf_Checker_begin_ref K a0 a1) Tryz.call187 rfl rfl rfl fun x3 => ?_)
    refine RefL.pure rfl rfl (RanP.assign rfl) ?_
    refine RefL.nil ?_
    refine RefE.next ?_
    refine RefC.ret ?_
    refine RefE.thenRet ?_
    refine RefE.retV rfl ?_
    refine RefV.tmp rfl ?_
    exact RefV.nil rfl
  · refine RefC.skip ?_
    refine RefE.next ?_
    refine RefC.seq ?_
    refine RefC.seq ?_
    refine RefC.region ?_
    refine RefL.pure rfl rfl (RanP.move rfl) ?_
    refine RefL.pure rfl rfl (RanP.move rfl) ?_
    refine RefL.li rfl rfl (Lt.nn rfl fun x4 => ?_)
    refine RefL.pure rfl rfl (RanP.fieldAddr fa_200_1 rfl) ?_
    refine RefL.pure rfl rfl (RanP.ixArr (len := 2) (by decide) Tryz.underlying198 Tryz.sizeOf5 rfl rfl) ?_
    refine RefL.li rfl rfl (Lt.ldI Tryz.isAgg5 rfl fun x5 => ?_)
    refine RefL.pure rfl rfl (RanP.lss rfl rfl) ?_
    refine RefL.pure rfl rfl (RanP.move rfl) ?_
    refine RefL.cut (enc := fun (x6 : Bool) => ([(28, .bool x6), (0, .pointer a0)] : Env)) 8 ?_ ?_
    · refine RefL.ite (s := 20) rfl ?_ ?_
      · refine RefL.skip rfl rfl ?_
        refine RefL.skip rfl rfl ?_
        refine RefL.skip rfl rfl ?_
        refine RefL.skip rfl rfl ?_
        refine RefL.skip rfl rfl ?_
        refine RefL.skip rfl rfl ?_
        refine RefL.skip rfl rfl ?_
        refine RefL.pure rfl rfl (RanP.pickT rfl rfl) ?_
        refine RefL.nil ?_
        exact RefE.fin (s := true) ⟨rfl, rfl, trivial⟩
      · refine RefL.pure rfl rfl (RanP.move rfl) ?_
        refine RefL.pure rfl rfl (RanP.move rfl) ?_
        refine RefL.li rfl rfl (Lt.nn rfl fun x7 => ?_)
        refine RefL.pure rfl rfl (RanP.fieldAddr fa_200_1 rfl) ?_
        refine RefL.pure rfl rfl (RanP.ixArr (len := 2) (by decide) Tryz.underlying198 Tryz.sizeOf5 rfl rfl) ?_
        refine RefL.li rfl rfl (Lt.ldI Tryz.isAgg5 rfl fun x8 => ?_)
        refine RefL.pure rfl rfl (RanP.gtr rfl rfl) ?_
        refine RefL.pure rfl rfl (RanP.pickF rfl rfl) ?_
        refine RefL.nil ?_
        exact RefE.fin (s := (decide (x8 < a1))) ⟨rfl, rfl, trivial⟩
    · intro x6
      refine RefL.nil ?_
      refine RefE.next ?_
      refine RefC.cond rfl ?_ ?_
      · refine RefC.seq ?_
        refine RefC.region ?_
        refine RefL.pure rfl rfl (RanP.assign rfl) ?_
        refine RefL.nil ?_
        refine RefE.next ?_
        refine RefC.ret ?_
        refine RefE.thenRet ?_
        refine RefE.retV rfl ?_
        refine RefV.tmp rfl ?_
        exact RefV.nil rfl
      · refine RefC.skip ?_
        refine RefE.next ?_
        refine RefC.seq ?_
        refine RefC.region ?_
        refine RefL.pure rfl rfl (RanP.move rfl) ?_
        refine RefL.pure rfl rfl (RanP.build rfl (v := .agg (Agg.cells (A2u8.mk (128 : Int) (191 : Int))).toArray) (fun _ => by kernel_rfl)) ?_
        refine RefL.li rfl rfl (Lt.nn rfl fun x9 => ?_)
        refine RefL.pure rfl rfl (RanP.fieldAddr fa_200_1 rfl) ?_
        refine RefL.hv rfl rfl (Hv.st Tryz.sizeOf198 rfl rfl rfl ?_)
        refine RefL.nil ?_
        refine RefE.next ?_
        refine RefC.seq ?_
        refine RefC.region ?_
        refine RefL.pure rfl rfl (RanP.move rfl) ?_
        refine RefL.li rfl rfl (Lt.nn rfl fun x10 => ?_)
        refine RefL.pure rfl rfl (RanP.fieldAddr fa_200_0 rfl) ?_
        refine RefL.li rfl rfl (Lt.ldI Tryz.isAgg3 rfl fun x11 => ?_)
        refine RefL.pure rfl rfl (RanP.sub rfl rfl) ?_
        refine RefL.li rfl rfl (Lt.nn rfl fun x12 => ?_)
        refine RefL.pure rfl rfl (RanP.fieldAddr fa_200_0 rfl) ?_
        refine RefL.hv rfl rfl (Hv.st Tryz.sizeOf3 rfl rfl rfl ?_)
        refine RefL.nil ?_
        refine RefE.next ?_
        refine RefC.seq ?_
        refine RefC.seq ?_
        refine RefC.region ?_
        refine RefL.pure rfl rfl (RanP.move rfl) ?_
        refine RefL.li rfl rfl (Lt.nn rfl fun x13 => ?_)
        refine RefL.pure rfl rfl (RanP.fieldAddr fa_200_0 rfl) ?_
        refine RefL.li rfl rfl (Lt.ldI Tryz.isAgg3 rfl fun x14 => ?_)
        refine RefL.pure rfl rfl (RanP.eql rfl rfl) ?_
        refine RefL.nil ?_
        refine RefE.next ?_
        refine RefC.cut (enc := fun (s21 : Unit) => ([] : Env)) ?_ ?_
        · refine RefC.cond rfl ?_ ?_
          · refine RefC.region ?_
            refine RefL.pure rfl rfl (RanP.move rfl) ?_
            refine RefL.li rfl rfl (Lt.nn rfl fun x18 => ?_)
            refine RefL.pure rfl rfl (RanP.fieldAddr fa_200_2 rfl) ?_
            refine RefL.li rfl rfl (Lt.ldI Tryz.isAgg3 rfl fun x19 => ?_)
            refine RefL.pure rfl rfl (RanP.add rfl rfl) ?_
            refine RefL.li rfl rfl (Lt.nn rfl fun x20 => ?_)
            refine RefL.pure rfl rfl (RanP.fieldAddr fa_200_2 rfl) ?_
            refine RefL.hv rfl rfl (Hv.st Tryz.sizeOf3 rfl rfl rfl ?_)
            refine RefL.nil ?_
            exact RefE.fin (s := ()) trivial
          · refine RefC.skip ?_
            exact RefE.fin (s := ()) trivial
        · intro s21
          refine RefE.next ?_
          refine RefC.seq ?_
          refine RefC.region ?_
          refine RefL.pure rfl rfl (RanP.assign rfl) ?_
          refine RefL.nil ?_
          refine RefE.next ?_
          refine RefC.ret ?_
          refine RefE.retV rfl ?_
          refine RefV.tmp rfl ?_
          exact RefV.nil rfl

def utf_Checker_Feed_l0 (K : Nat) (a1 : Sl) (a0 : Option Addr) (again : Int → G (Unit ⊕ Int)) (s25 : Int) : G (Unit ⊕ Int) :=
  if (decide (s25 < (a1.n : Int))) = true then
    ixA a1 s25 1 fun x26 =>
    ldI .u8 x26 fun x27 =>
    nn a0 fun x28 =>
    ldB (x28.add 4) fun x29 =>
    bnd (
      if x29 = true then
        ret true
      else
        bnd (utf_Checker_take K a0 x27) fun x31 =>
        ret (!x31)) fun (x30 : Bool) =>
    if x30 = true then
      nn a0 fun x32 =>
      st (x32.add 4) (.bool true) <|
      inr (ret s25)
    else
      again ((IntKind.wrap .i64 (s25 + (1 : Int))))
  else
    ret (.inl ())
def utf_Checker_Feed (K : Nat) (a0 : Option Addr) (a1 : Sl) : G (Int) :=
  bnd (
    loopG (utf_Checker_Feed_l0 K a1 a0) K ((0 : Int))) (sumK fun (s33 : Unit) =>
  lt (a1.n : Int) fun x34 =>
  ret x34)
set_option maxRecDepth 100000 in
theorem utf_Checker_Feed_ref (K : Nat) (a0 : Option Addr) (a1 : Sl) : Does Tryz.prog 168 [.pointer a0, .slice a1.a a1.n a1.c] (utf_Checker_Feed K a0 a1) (fun r => .int .i64 r) := by
  refine Does.of Tryz.func168 rfl rfl rfl ?_
  unfold utf_Checker_Feed
  refine RefC.seq ?_
  refine RefC.region ?_
  refine RefL.pure rfl rfl (RanP.assign rfl) ?_
  refine RefL.nil ?_
  refine RefE.next ?_
  refine RefC.seq ?_
  refine RefC.seq ?_
  refine RefC.region ?_
  refine RefL.pure rfl rfl (RanP.move rfl) ?_
  refine RefL.pure rfl rfl (RanP.lenSl rfl Tryz.underlying49 rfl) ?_
  refine RefL.pure rfl rfl (RanP.move rfl) ?_
  refine RefL.nil ?_
  refine RefE.next ?_
  refine RefC.cutSum (enc := fun (s33 : Unit) => ([(1, .slice a1.a a1.n a1.c)] : Env)) (KThen.mono KRet.mono) ?_ ?_
  · refine RefC.block ?_
    refine RefC.loopW (enc := fun (s25 : Int) => ([(9, .int .i64 s25), (0, .pointer a0), (1, .slice a1.a a1.n a1.c), (7, .slice a1.a a1.n a1.c), (8, .int .i64 (a1.n : Int))] : Env)) ⟨rfl, rfl, rfl, rfl, rfl, trivial⟩ ?_ _
    intro again k ih s25
    unfold utf_Checker_Feed_l0
    refine RefC.seq ?_
    refine RefC.region ?_
    refine RefL.pure rfl rfl (RanP.lss rfl rfl) ?_
    refine RefL.nil ?_
    refine RefE.next ?_
    refine RefC.seq ?_
    refine RefC.cond rfl ?_ ?_
    · refine RefC.skip ?_
      refine RefE.next ?_
      refine RefC.seq ?_
      refine RefC.block ?_
      refine RefC.seq ?_
      refine RefC.region ?_
      refine RefL.pure rfl rfl (RanP.move rfl) ?_
      refine RefL.li rfl rfl (Lt.ixA Tryz.underlying49 Tryz.sizeOf5 rfl rfl fun x26 => ?_)
      refine RefL.li rfl rfl (Lt.ldI Tryz.isAgg5 rfl fun x27 => ?_)
      refine RefL.pure rfl rfl (RanP.assign rfl) ?_
      refine RefL.pure rfl rfl (RanP.assign rfl) ?_
      refine RefL.nil ?_
      refine RefE.next ?_
      refine RefC.seq ?_
      refine RefC.region ?_
      refine RefL.pure rfl rfl (RanP.move rfl) ?_
      refine RefL.li rfl rfl (Lt.nn rfl fun x28 => ?_)
      refine RefL.pure rfl rfl (RanP.fieldAddr fa_200_3 rfl) ?_
      refine RefL.li rfl rfl (Lt.ldB Tryz.isAgg4 rfl fun x29 => ?_)
      refine RefL.pure rfl rfl (RanP.move rfl) ?_
      refine RefL.cut (enc := fun (x30 : Bool) => ([(23, .bool x30), (0, .pointer a0), (1, .slice a1.a a1.n a1.c), (5, .int .i64 s25), (7, .slice a1.a a1.n a1.c), (8, .int .i64 (a1.n : Int)), (9, .int .i64 s25)] : Env)) 5 ?_ ?_
      · refine RefL.ite (s := 18) rfl ?_ ?_
        · refine RefL.skip rfl rfl ?_
          refine RefL.skip rfl rfl ?_
          refine RefL.skip rfl rfl ?_
          refine RefL.skip rfl rfl ?_
          refine RefL.pure rfl rfl (RanP.pickT rfl rfl) ?_
          refine RefL.nil ?_
          exact RefE.fin (s := true) ⟨rfl, rfl, rfl, rfl, rfl, rfl, rfl, trivial⟩
        · refine RefL.pure rfl rfl (RanP.move rfl) ?_
          refine RefL.pure rfl rfl (RanP.move rfl) ?_
          refine RefL.hv rfl rfl (Hv.call (utf_Checker_take_ref K a0 x27) Tryz.call181 rfl rfl rfl fun x31 => ?_)
          refine RefL.pure rfl rfl (RanP.not rfl) ?_
          refine RefL.pure rfl rfl (RanP.pickF rfl rfl) ?_
          refine RefL.nil ?_
          exact RefE.fin (s := (!x31)) ⟨rfl, rfl, rfl, rfl, rfl, rfl, rfl, trivial⟩
      · intro x30
        refine RefL.nil ?_
        refine RefE.next ?_
        refine RefC.cond rfl ?_ ?_
        · refine RefC.seq ?_
          refine RefC.region ?_
          refine RefL.pure rfl rfl (RanP.move rfl) ?_
          refine RefL.li rfl rfl (Lt.nn rfl fun x32 => ?_)
          refine RefL.pure rfl rfl (RanP.fieldAddr fa_200_3 rfl) ?_
          refine RefL.hv rfl rfl (Hv.st Tryz.sizeOf4 rfl rfl rfl ?_)
          refine RefL.nil ?_
          refine RefE.next ?_
          refine RefC.seq ?_
          refine RefC.region ?_
          refine RefL.pure rfl rfl (RanP.move rfl) ?_
          refine RefL.pure rfl rfl (RanP.assign rfl) ?_
          refine RefL.nil ?_
          refine RefE.next ?_
          refine RefC.ret ?_
          refine RefE.blockRet ?_
          refine RefE.thenRet ?_
          refine RefE.roundRet ?_
          refine RefE.blockRet ?_
          refine RefE.finR ?_
          refine RefE.thenRet ?_
          refine RefE.retV rfl ?_
          refine RefV.tmp rfl ?_
          exact RefV.nil rfl
        · refine RefC.skip ?_
          refine RefE.blockNormal ?_
          refine RefE.next ?_
          refine RefC.region ?_
          refine RefL.pure rfl rfl (RanP.add rfl rfl) ?_
          refine RefL.pure rfl rfl (RanP.move rfl) ?_
          refine RefL.nil ?_
          exact RefE.again (ih ((IntKind.wrap .i64 (s25 + (1 : Int))))) ⟨rfl, rfl, rfl, rfl, rfl, trivial⟩
    · refine RefC.exit ?_
      refine RefE.thenExit ?_
      refine RefE.roundExit ?_
      refine RefE.blockExit ?_
      exact RefE.finL (s := ()) ⟨rfl, trivial⟩
  · intro s33
    refine RefE.next ?_
    refine RefC.seq ?_
    refine RefC.region ?_
    refine RefL.pure rfl rfl (RanP.move rfl) ?_
    refine RefL.pure rfl rfl (RanP.lenSl rfl Tryz.underlying49 rfl) ?_
    refine RefL.pure rfl rfl (RanP.assign rfl) ?_
    refine RefL.lt 4 (fun y => .int .i64 y) rfl fun x34 => ?_
    refine RefL.nil ?_
    refine RefE.next ?_
    refine RefC.ret ?_
    refine RefE.retV rfl ?_
    refine RefV.tmp rfl ?_
    exact RefV.nil rfl

def utf_Checker_Whole (K : Nat) (a0 : Option Addr) : G (Bool) :=
  nn a0 fun x1 =>
  ldB (x1.add 4) fun x2 =>
  bnd (
    if (!x2) = true then
      nn a0 fun x4 =>
      ldI .i64 (x4.add 0) fun x5 =>
      ret (x5 == (0 : Int))
    else
      ret false) fun (x3 : Bool) =>
  ret x3
set_option maxRecDepth 100000 in
theorem utf_Checker_Whole_ref (K : Nat) (a0 : Option Addr) : Does Tryz.prog 170 [.pointer a0] (utf_Checker_Whole K a0) (fun r => .bool r) := by
  refine Does.of Tryz.func170 rfl rfl rfl ?_
  unfold utf_Checker_Whole
  refine RefC.seq ?_
  refine RefC.region ?_
  refine RefL.pure rfl rfl (RanP.assign rfl) ?_
  refine RefL.nil ?_
  refine RefE.next ?_
  refine RefC.seq ?_
  refine RefC.region ?_
  refine RefL.pure rfl rfl (RanP.move rfl) ?_
  refine RefL.li rfl rfl (Lt.nn rfl fun x1 => ?_)
  refine RefL.pure rfl rfl (RanP.fieldAddr fa_200_3 rfl) ?_
  refine RefL.li rfl rfl (Lt.ldB Tryz.isAgg4 rfl fun x2 => ?_)
  refine RefL.pure rfl rfl (RanP.not rfl) ?_
  refine RefL.pure rfl rfl (RanP.move rfl) ?_
  refine RefL.cut (enc := fun (x3 : Bool) => ([(14, .bool x3)] : Env)) 6 ?_ ?_
  · refine RefL.ite (s := 8) rfl ?_ ?_
    · refine RefL.pure rfl rfl (RanP.move rfl) ?_
      refine RefL.li rfl rfl (Lt.nn rfl fun x4 => ?_)
      refine RefL.pure rfl rfl (RanP.fieldAddr fa_200_0 rfl) ?_
      refine RefL.li rfl rfl (Lt.ldI Tryz.isAgg3 rfl fun x5 => ?_)
      refine RefL.pure rfl rfl (RanP.eql rfl rfl) ?_
      refine RefL.pure rfl rfl (RanP.pickT rfl rfl) ?_
      refine RefL.nil ?_
      exact RefE.fin (s := (x5 == (0 : Int))) ⟨rfl, trivial⟩
    · refine RefL.skip rfl rfl ?_
      refine RefL.skip rfl rfl ?_
      refine RefL.skip rfl rfl ?_
      refine RefL.skip rfl rfl ?_
      refine RefL.skip rfl rfl ?_
      refine RefL.pure rfl rfl (RanP.pickF rfl rfl) ?_
      refine RefL.nil ?_
      exact RefE.fin (s := false) ⟨rfl, trivial⟩
  · intro x3
    refine RefL.pure rfl rfl (RanP.assign rfl) ?_
    refine RefL.nil ?_
    refine RefE.next ?_
    refine RefC.ret ?_
    refine RefE.retV rfl ?_
    refine RefV.tmp rfl ?_
    exact RefV.nil rfl

def utf_Count (K : Nat) (a0 : Sl) : G (Int × Bool) :=
  bnd (utf_New K) fun x1 =>
  bnd (utf_Checker_Feed K x1 a0) fun x2 =>
  bnd (utf_Checker_Whole K x1) fun x3 =>
  if (!x3) = true then
    ret ((0 : Int), false)
  else
    nn x1 fun x4 =>
    ldI .i64 (x4.add 3) fun x5 =>
    ret (x5, true)
set_option maxRecDepth 100000 in
theorem utf_Count_ref (K : Nat) (a0 : Sl) : Does Tryz.prog 154 [.slice a0.a a0.n a0.c] (utf_Count K a0) (fun r => .tuple #[.int .i64 r.1, .bool r.2]) := by
  refine Does.of Tryz.func154 rfl rfl rfl ?_
  unfold utf_Count
  refine RefC.seq ?_
  refine RefC.region ?_
  refine RefL.pure rfl rfl (RanP.assign rfl) ?_
  refine RefL.pure rfl rfl (RanP.assign rfl) ?_
  refine RefL.nil ?_
  refine RefE.next ?_
  refine RefC.seq ?_
  refine RefC.region ?_
  refine RefL.hv rfl rfl (Hv.call (utf_New_ref K) Tryz.call100 rfl rfl rfl fun x1 => ?_)
  refine RefL.pure rfl rfl (RanP.assign rfl) ?_
  refine RefL.nil ?_
  refine RefE.next ?_
  refine RefC.seq ?_
  refine RefC.region ?_
  refine RefL.pure rfl rfl (RanP.move rfl) ?_
  refine RefL.pure rfl rfl (RanP.move rfl) ?_
  refine RefL.hv rfl rfl (Hv.call (utf_Checker_Feed_ref K x1 a0) Tryz.call168 rfl rfl rfl fun x2 => ?_)
  refine RefL.nil ?_
  refine RefE.next ?_
  refine RefC.seq ?_
  refine RefC.seq ?_
  refine RefC.region ?_
  refine RefL.pure rfl rfl (RanP.move rfl) ?_
  refine RefL.hv rfl rfl (Hv.call (utf_Checker_Whole_ref K x1) Tryz.call170 rfl rfl rfl fun x3 => ?_)
  refine RefL.pure rfl rfl (RanP.not rfl) ?_
  refine RefL.nil ?_
  refine RefE.next ?_
  refine RefC.cond rfl ?_ ?_
  · refine RefC.seq ?_
    refine RefC.region ?_
    refine RefL.pure rfl rfl (RanP.assign rfl) ?_
    refine RefL.pure rfl rfl (RanP.assign rfl) ?_
    refine RefL.nil ?_
    refine RefE.next ?_
    refine RefC.ret ?_
    refine RefE.thenRet ?_
    refine RefE.retV rfl ?_
    refine RefV.tmp rfl ?_
    refine RefV.tmp rfl ?_
    exact RefV.nil rfl
  · refine RefC.skip ?_
    refine RefE.next ?_
    refine RefC.seq ?_
    refine RefC.region ?_
    refine RefL.pure rfl rfl (RanP.move rfl) ?_
    refine RefL.li rfl rfl (Lt.nn rfl fun x4 => ?_)
    refine RefL.pure rfl rfl (RanP.fieldAddr fa_200_2 rfl) ?_
    refine RefL.li rfl rfl (Lt.ldI Tryz.isAgg3 rfl fun x5 => ?_)
    refine RefL.pure rfl rfl (RanP.assign rfl) ?_
    refine RefL.pure rfl rfl (RanP.assign rfl) ?_
    refine RefL.nil ?_
    refine RefE.next ?_
    refine RefC.ret ?_
    refine RefE.retV rfl ?_
    refine RefV.tmp rfl ?_
    refine RefV.tmp rfl ?_
    exact RefV.nil rfl

def utf_Valid (K : Nat) (a0 : Sl) : G (Bool) :=
  bnd (utf_Count K a0) fun x1 =>
  ret x1.2
set_option maxRecDepth 100000 in
theorem utf_Valid_ref (K : Nat) (a0 : Sl) : Does Tryz.prog 120 [.slice a0.a a0.n a0.c] (utf_Valid K a0) (fun r => .bool r) := by
  refine Does.of Tryz.func120 rfl rfl rfl ?_
  unfold utf_Valid
  refine RefC.seq ?_
  refine RefC.region ?_
  refine RefL.pure rfl rfl (RanP.assign rfl) ?_
  refine RefL.nil ?_
  refine RefE.next ?_
  refine RefC.seq ?_
  refine RefC.region ?_
  refine RefL.pure rfl rfl (RanP.move rfl) ?_
  refine RefL.hv rfl rfl (Hv.call (utf_Count_ref K a0) Tryz.call154 rfl rfl rfl fun x1 => ?_)
  refine RefL.pure rfl rfl (RanP.move rfl) ?_
  refine RefL.pure rfl rfl (RanP.extract rfl rfl) ?_
  refine RefL.pure rfl rfl (RanP.extract rfl rfl) ?_
  refine RefL.pure rfl rfl (RanP.assign rfl) ?_
  refine RefL.pure rfl rfl (RanP.assign rfl) ?_
  refine RefL.nil ?_
  refine RefE.next ?_
  refine RefC.seq ?_
  refine RefC.region ?_
  refine RefL.pure rfl rfl (RanP.move rfl) ?_
  refine RefL.pure rfl rfl (RanP.assign rfl) ?_
  refine RefL.nil ?_
  refine RefE.next ?_
  refine RefC.ret ?_
  refine RefE.retV rfl ?_
  refine RefV.tmp rfl ?_
  exact RefV.nil rfl

def close_Get (K : Nat) (a0 : ByteArray) : G (Int × ByteArray × Int) :=
  lt (ByteArray.mk #[]) fun x1 =>
  if (sEq a0 (ByteArray.mk #[])) = true then
    lt (ByteArray.mk #[]) fun x2 =>
    ret ((1005 : Int), x2, (0 : Int))
  else
    bnd (
      if (decide ((a0.size : Int) < (2 : Int))) = true then
        ret true
      else
        ret (decide ((125 : Int) < (a0.size : Int)))) fun (x3 : Bool) =>
    if x3 = true then
      lt (ByteArray.mk #[]) fun x4 =>
      ret ((0 : Int), x4, (110 : Int))
    else
      drw <|
      chk (0 ≤ (0 : Int) ∧ (0 : Int) < (a0.size : Int)) <|
      chk (0 ≤ (1 : Int) ∧ (1 : Int) < (a0.size : Int)) <|
      slStr a0 (some (2 : Int)) none fun x7 =>
      lt (orI .i64 (shlI .i64 (IntKind.wrap .i64 (bt a0 (0 : Int))) (8 : Int)) (IntKind.wrap .i64 (bt a0 (1 : Int)))) fun x8 =>
      bnd (close_Valid K x8) fun x9 =>
      lt (!x9) fun x10 =>
      if x10 = true then
        lt (ByteArray.mk #[]) fun x11 =>
        ret ((0 : Int), x11, (110 : Int))
      else
        bytesOf 5 x7 fun x12 =>
        bnd (utf_Valid K x12) fun x13 =>
        lt (!x13) fun x14 =>
        if x14 = true then
          lt (ByteArray.mk #[]) fun x15 =>
          ret ((0 : Int), x15, (111 : Int))
        else
          ret (x8, x7, (0 : Int))
set_option maxRecDepth 100000 in
theorem close_Get_ref (K : Nat) (a0 : ByteArray) : Does Tryz.prog 165 [.string a0] (close_Get K a0) (fun r => .tuple #[.int .i64 r.1, .string r.2.1, .int .i64 r.2.2]) := by
  refine Does.of Tryz.func165 rfl rfl rfl ?_
  unfold close_Get
  refine RefC.seq ?_
  refine RefC.region ?_
  refine RefL.pure rfl rfl (RanP.assign rfl) ?_
  refine RefL.pure rfl rfl (RanP.assign rfl) ?_
  refine RefL.lt 3 (fun y => .string y) rfl fun x1 => ?_
  refine RefL.pure rfl rfl (RanP.assign rfl) ?_
  refine RefL.nil ?_
  refine RefE.next ?_
  refine RefC.seq ?_
  refine RefC.seq ?_
  refine RefC.region ?_
  refine RefL.pure rfl rfl (RanP.move rfl) ?_
  refine RefL.pure rfl rfl (RanP.eqlS rfl rfl) ?_
  refine RefL.nil ?_
  refine RefE.next ?_
  refine RefC.cond rfl ?_ ?_
  · refine RefC.seq ?_
    refine RefC.region ?_
    refine RefL.pure rfl rfl (RanP.assign rfl) ?_
    refine RefL.pure rfl rfl (RanP.assign rfl) ?_
    refine RefL.lt 3 (fun y => .string y) rfl fun x2 => ?_
    refine RefL.pure rfl rfl (RanP.assign rfl) ?_
    refine RefL.nil ?_
    refine RefE.next ?_
    refine RefC.ret ?_
    refine RefE.thenRet ?_
    refine RefE.retV rfl ?_
    refine RefV.tmp rfl ?_
    refine RefV.tmp rfl ?_
    refine RefV.tmp rfl ?_
    exact RefV.nil rfl
  · refine RefC.skip ?_
    refine RefE.next ?_
    refine RefC.seq ?_
    refine RefC.seq ?_
    refine RefC.region ?_
    refine RefL.pure rfl rfl (RanP.move rfl) ?_
    refine RefL.pure rfl rfl (RanP.lenS rfl Tryz.underlying9 rfl) ?_
    refine RefL.pure rfl rfl (RanP.lss rfl rfl) ?_
    refine RefL.pure rfl rfl (RanP.move rfl) ?_
    refine RefL.cut (enc := fun (x3 : Bool) => ([(16, .bool x3), (0, .string a0)] : Env)) 4 ?_ ?_
    · refine RefL.ite (s := 12) rfl ?_ ?_
      · refine RefL.skip rfl rfl ?_
        refine RefL.skip rfl rfl ?_
        refine RefL.skip rfl rfl ?_
        refine RefL.pure rfl rfl (RanP.pickT rfl rfl) ?_
        refine RefL.nil ?_
        exact RefE.fin (s := true) ⟨rfl, rfl, trivial⟩
      · refine RefL.pure rfl rfl (RanP.move rfl) ?_
        refine RefL.pure rfl rfl (RanP.lenS rfl Tryz.underlying9 rfl) ?_
        refine RefL.pure rfl rfl (RanP.gtr rfl rfl) ?_
        refine RefL.pure rfl rfl (RanP.pickF rfl rfl) ?_
        refine RefL.nil ?_
        exact RefE.fin (s := (decide ((125 : Int) < (a0.size : Int)))) ⟨rfl, rfl, trivial⟩
    · intro x3
      refine RefL.nil ?_
      refine RefE.next ?_
      refine RefC.cond rfl ?_ ?_
      · refine RefC.seq ?_
        refine RefC.region ?_
        refine RefL.pure rfl rfl (RanP.assign rfl) ?_
        refine RefL.pure rfl rfl (RanP.assign rfl) ?_
        refine RefL.lt 3 (fun y => .string y) rfl fun x4 => ?_
        refine RefL.pure rfl rfl (RanP.assign rfl) ?_
        refine RefL.nil ?_
        refine RefE.next ?_
        refine RefC.ret ?_
        refine RefE.thenRet ?_
        refine RefE.retV rfl ?_
        refine RefV.tmp rfl ?_
        refine RefV.tmp rfl ?_
        refine RefV.tmp rfl ?_
        exact RefV.nil rfl
      · refine RefC.skip ?_
        refine RefE.next ?_
        refine RefC.seq ?_
        refine RefC.draw mixed [0, 1, 3, 7, 0, 16, 48, 127, 0, 256, 255, 2047] [.lp 0, .lp 1, .lp 2, .lp 3, .lp 4, .lp 5, .lp 6, .lp 7, .lp 8, .lp 9, .lp 10, .lp 11] (by kernel_rfl) ?_
        refine RefD.pure (at_ rfl) rfl (RanP.move rfl) ?_
        refine RefD.chk fun h5 => ?_
        refine RefD.pure (at_ rfl) rfl (RanP.indexS h5 Tryz.underlying9 rfl rfl) ?_
        refine RefD.pure (at_ rfl) rfl (RanP.conv Tryz.underlying5 Tryz.underlying3 rfl) ?_
        refine RefD.pure (at_ rfl) rfl (RanP.shl (by decide) rfl rfl) ?_
        refine RefD.pure (at_ rfl) rfl (RanP.move rfl) ?_
        refine RefD.chk fun h6 => ?_
        refine RefD.pure (at_ rfl) rfl (RanP.indexS h6 Tryz.underlying9 rfl rfl) ?_
        refine RefD.pure (at_ rfl) rfl (RanP.conv Tryz.underlying5 Tryz.underlying3 rfl) ?_
        refine RefD.pure (at_ rfl) rfl (RanP.or rfl rfl) ?_
        refine RefD.pure (at_ rfl) rfl (RanP.move rfl) ?_
        refine RefD.any (at_ rfl) rfl (Lt.slStr (kl := .i64) (kh := .i64) Tryz.underlying9 rfl rfl rfl fun x7 => ?_)
        refine RefD.pure (at_ rfl) rfl (RanP.assign rfl) ?_
        refine RefD.lt 5 (fun y => .int .i64 y) rfl fun x8 => ?_
        refine RefD.pure (at_ rfl) rfl (RanP.assign rfl) ?_
        refine RefD.nil ?_
        refine RefE.next ?_
        refine RefC.seq ?_
        refine RefC.block ?_
        refine RefC.seq ?_
        refine RefC.region ?_
        refine RefL.pure rfl rfl (RanP.move rfl) ?_
        refine RefL.hv rfl rfl (Hv.call (close_Valid_ref K x8) Tryz.call119 rfl rfl rfl fun x9 => ?_)
        refine RefL.pure rfl rfl (RanP.not rfl) ?_
        refine RefL.pure rfl rfl (RanP.assign rfl) ?_
        refine RefL.lt 27 (fun y => .bool y) rfl fun x10 => ?_
        refine RefL.nil ?_
        refine RefE.next ?_
        refine RefC.cond rfl ?_ ?_
        · refine RefC.seq ?_
          refine RefC.region ?_
          refine RefL.pure rfl rfl (RanP.assign rfl) ?_
          refine RefL.pure rfl rfl (RanP.assign rfl) ?_
          refine RefL.lt 3 (fun y => .string y) rfl fun x11 => ?_
          refine RefL.pure rfl rfl (RanP.assign rfl) ?_
          refine RefL.nil ?_
          refine RefE.next ?_
          refine RefC.ret ?_
          refine RefE.blockRet ?_
          refine RefE.thenRet ?_
          refine RefE.retV rfl ?_
          refine RefV.tmp rfl ?_
          refine RefV.tmp rfl ?_
          refine RefV.tmp rfl ?_
          exact RefV.nil rfl
        · refine RefC.seq ?_
          refine RefC.region ?_
          refine RefL.pure rfl rfl (RanP.move rfl) ?_
          refine RefL.hv rfl rfl (Hv.bytesOf Tryz.underlying9 Tryz.underlying49 Tryz.underlying5 rfl fun x12 => ?_)
          refine RefL.hv rfl rfl (Hv.call (utf_Valid_ref K x12) Tryz.call120 rfl rfl rfl fun x13 => ?_)
          refine RefL.pure rfl rfl (RanP.not rfl) ?_
          refine RefL.pure rfl rfl (RanP.assign rfl) ?_
          refine RefL.lt 31 (fun y => .bool y) rfl fun x14 => ?_
          refine RefL.nil ?_
          refine RefE.next ?_
          refine RefC.cond rfl ?_ ?_
          · refine RefC.seq ?_
            refine RefC.region ?_
            refine RefL.pure rfl rfl (RanP.assign rfl) ?_
            refine RefL.pure rfl rfl (RanP.assign rfl) ?_
            refine RefL.lt 3 (fun y => .string y) rfl fun x15 => ?_
            refine RefL.pure rfl rfl (RanP.assign rfl) ?_
            refine RefL.nil ?_
            refine RefE.next ?_
            refine RefC.ret ?_
            refine RefE.blockRet ?_
            refine RefE.thenRet ?_
            refine RefE.retV rfl ?_
            refine RefV.tmp rfl ?_
            refine RefV.tmp rfl ?_
            refine RefV.tmp rfl ?_
            exact RefV.nil rfl
          · refine RefC.skip ?_
            refine RefE.blockNormal ?_
            refine RefE.next ?_
            refine RefC.seq ?_
            refine RefC.region ?_
            refine RefL.pure rfl rfl (RanP.move rfl) ?_
            refine RefL.pure rfl rfl (RanP.move rfl) ?_
            refine RefL.pure rfl rfl (RanP.assign rfl) ?_
            refine RefL.pure rfl rfl (RanP.assign rfl) ?_
            refine RefL.pure rfl rfl (RanP.assign rfl) ?_
            refine RefL.nil ?_
            refine RefE.next ?_
            refine RefC.ret ?_
            refine RefE.retV rfl ?_
            refine RefV.tmp rfl ?_
            refine RefV.tmp rfl ?_
            refine RefV.tmp rfl ?_
            exact RefV.nil rfl

def msg_Machine_end (K : Nat) (a0 : Option Addr) (a1 : Tapi_Frame) : G (Tapi_Event × Bool × Int) :=
  new (Agg.cells a1) 61 fun x1 =>
  new [.int .i64 (0 : Int), .int .i64 (0 : Int), .string (ByteArray.mk #[])] 52 fun x2 =>
  ldS (x1.add 7) fun x3 =>
  bnd (close_Get K x3) fun x4 =>
  if (x4.2.2 != (0 : Int)) = true then
    bnd (msg_Machine_stop K a0 x4.2.2) fun x5 =>
    st x2 (.agg (Agg.cells x5.1).toArray) <|
    ldG (α := Tapi_Event) x2 fun r6 =>
    ret (r6, x5.2.1, x5.2.2)
  else
    nn a0 fun x7 =>
    st (x7.add 4) (.bool true) <|
    bnd (msg_Machine_stop K a0 (0 : Int)) fun x8 =>
    st x2 (.agg (Agg.cells (Tapi_Event.mk (8 : Int) x4.1 x4.2.1)).toArray) <|
    ldG (α := Tapi_Event) x2 fun r9 =>
    ret (r9, true, (0 : Int))
set_option maxRecDepth 100000 in
theorem msg_Machine_end_ref (K : Nat) (a0 : Option Addr) (a1 : Tapi_Frame) : Does Tryz.prog 141 [.pointer a0, .agg (Agg.cells a1).toArray] (msg_Machine_end K a0 a1) (fun r => .tuple #[.agg (Agg.cells r.1).toArray, .bool r.2.1, .int .i64 r.2.2]) := by
  refine Does.of Tryz.func141 rfl rfl rfl ?_
  unfold msg_Machine_end
  refine RefC.seq ?_
  refine RefC.region ?_
  refine RefL.hv rfl rfl (Hv.box rfl rfl fun x1 => ?_)
  refine RefL.hv rfl rfl (Hv.newZ Tryz.zeroValue52 rfl fun x2 => ?_)
  refine RefL.pure rfl rfl (RanP.assign rfl) ?_
  refine RefL.pure rfl rfl (RanP.assign rfl) ?_
  refine RefL.nil ?_
  refine RefE.next ?_
  refine RefC.seq ?_
  refine RefC.region ?_
  refine RefL.pure rfl rfl (RanP.fieldAddr fa_61_4 rfl) ?_
  refine RefL.li rfl rfl (Lt.ldS Tryz.isAgg9 rfl fun x3 => ?_)
  refine RefL.hv rfl rfl (Hv.call (close_Get_ref K x3) Tryz.call165 rfl rfl rfl fun x4 => ?_)
  refine RefL.pure rfl rfl (RanP.move rfl) ?_
  refine RefL.pure rfl rfl (RanP.extract rfl rfl) ?_
  refine RefL.pure rfl rfl (RanP.extract rfl rfl) ?_
  refine RefL.pure rfl rfl (RanP.extract rfl rfl) ?_
  refine RefL.pure rfl rfl (RanP.assign rfl) ?_
  refine RefL.pure rfl rfl (RanP.assign rfl) ?_
  refine RefL.pure rfl rfl (RanP.assign rfl) ?_
  refine RefL.nil ?_
  refine RefE.next ?_
  refine RefC.seq ?_
  refine RefC.seq ?_
  refine RefC.region ?_
  refine RefL.pure rfl rfl (RanP.move rfl) ?_
  refine RefL.pure rfl rfl (RanP.neq rfl rfl) ?_
  refine RefL.nil ?_
  refine RefE.next ?_
  refine RefC.cond rfl ?_ ?_
  · refine RefC.seq ?_
    refine RefC.region ?_
    refine RefL.pure rfl rfl (RanP.move rfl) ?_
    refine RefL.pure rfl rfl (RanP.move rfl) ?_
    refine RefL.hv rfl rfl (Hv.call (msg_Machine_stop_ref K a0 x4.2.2) Tryz.call140 rfl rfl rfl fun x5 => ?_)
    refine RefL.pure rfl rfl (RanP.extract rfl rfl) ?_
    refine RefL.pure rfl rfl (RanP.extract rfl rfl) ?_
    refine RefL.pure rfl rfl (RanP.extract rfl rfl) ?_
    refine RefL.hv rfl rfl (Hv.st Tryz.sizeOf52 rfl rfl rfl ?_)
    refine RefL.pure rfl rfl (RanP.assign rfl) ?_
    refine RefL.pure rfl rfl (RanP.assign rfl) ?_
    refine RefL.nil ?_
    refine RefE.next ?_
    refine RefC.ret ?_
    refine RefE.thenRet ?_
    refine RefE.retV rfl ?_
    refine RefV.cellG Tryz.isAgg52 Tryz.sizeOf52 rfl fun r6 => ?_
    refine RefV.tmp rfl ?_
    refine RefV.tmp rfl ?_
    exact RefV.nil rfl
  · refine RefC.skip ?_
    refine RefE.next ?_
    refine RefC.seq ?_
    refine RefC.region ?_
    refine RefL.pure rfl rfl (RanP.move rfl) ?_
    refine RefL.li rfl rfl (Lt.nn rfl fun x7 => ?_)
    refine RefL.pure rfl rfl (RanP.fieldAddr fa_163_4 rfl) ?_
    refine RefL.hv rfl rfl (Hv.st Tryz.sizeOf4 rfl rfl rfl ?_)
    refine RefL.nil ?_
    refine RefE.next ?_
    refine RefC.seq ?_
    refine RefC.region ?_
    refine RefL.pure rfl rfl (RanP.move rfl) ?_
    refine RefL.hv rfl rfl (Hv.call (msg_Machine_stop_ref K a0 (0 : Int)) Tryz.call140 rfl rfl rfl fun x8 => ?_)
    refine RefL.nil ?_
    refine RefE.next ?_
    refine RefC.seq ?_
    refine RefC.region ?_
    refine RefL.pure rfl rfl (RanP.move rfl) ?_
    refine RefL.pure rfl rfl (RanP.move rfl) ?_
    refine RefL.pure rfl rfl (RanP.build rfl (v := .agg (Agg.cells (Tapi_Event.mk (8 : Int) x4.1 x4.2.1)).toArray) (fun _ => by kernel_rfl)) ?_
    refine RefL.hv rfl rfl (Hv.st Tryz.sizeOf52 rfl rfl rfl ?_)
    refine RefL.pure rfl rfl (RanP.assign rfl) ?_
    refine RefL.pure rfl rfl (RanP.assign rfl) ?_
    refine RefL.nil ?_
    refine RefE.next ?_
    refine RefC.ret ?_
    refine RefE.retV rfl ?_
    refine RefV.cellG Tryz.isAgg52 Tryz.sizeOf52 rfl fun r9 => ?_
    refine RefV.tmp rfl ?_
    refine RefV.tmp rfl ?_
    exact RefV.nil rfl

end Go.Proofs.YtjdnjlnfcbaokaaGreat

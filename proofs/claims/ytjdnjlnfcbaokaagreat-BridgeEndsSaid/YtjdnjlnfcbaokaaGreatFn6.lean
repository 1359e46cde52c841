/-
  Go functions as programs over the world, and that the model's code does what they say. Printed by gen.py (own work).
-/
import Derived.Test.YtjdnjlnfcbaokaaGreatFn5
set_option linter.unusedVariables false
set_option linter.unusedSimpArgs false
namespace Go.Proofs.YtjdnjlnfcbaokaaGreat
open Go Go.Lg

def close_Across (K : Nat) (a0 : Int) : G (Int) :=
  lt (a0 == (1005 : Int)) fun x1 =>
  if x1 = true then
    ret (0 : Int)
  else
    bnd (close_Valid K a0) fun x2 =>
    if x2 = true then
      ret a0
    else
      ret (1011 : Int)
set_option maxRecDepth 100000 in
theorem close_Across_ref (K : Nat) (a0 : Int) : Does Tryz.prog 113 [.int .i64 a0] (close_Across K a0) (fun r => .int .i64 r) := by
  refine Does.of Tryz.func113 rfl rfl rfl ?_
  unfold close_Across
  refine RefC.seq ?_
  refine RefC.region ?_
  refine RefL.pure rfl rfl (RanP.assign rfl) ?_
  refine RefL.nil ?_
  refine RefE.next ?_
  refine RefC.seq ?_
  refine RefC.block ?_
  refine RefC.seq ?_
  refine RefC.region ?_
  refine RefL.pure rfl rfl (RanP.move rfl) ?_
  refine RefL.pure rfl rfl (RanP.eql rfl rfl) ?_
  refine RefL.pure rfl rfl (RanP.assign rfl) ?_
  refine RefL.lt 3 (fun y => .bool y) rfl fun x1 => ?_
  refine RefL.nil ?_
  refine RefE.next ?_
  refine RefC.cond rfl ?_ ?_
  · refine RefC.seq ?_
    refine RefC.region ?_
    refine RefL.pure rfl rfl (RanP.assign rfl) ?_
    refine RefL.nil ?_
    refine RefE.next ?_
    refine RefC.ret ?_
    refine RefE.blockRet ?_
    refine RefE.thenRet ?_
    refine RefE.retV rfl ?_
    refine RefV.tmp rfl ?_
    exact RefV.nil rfl
  · refine RefC.seq ?_
    refine RefC.region ?_
    refine RefL.pure rfl rfl (RanP.move rfl) ?_
    refine RefL.hv rfl rfl (Hv.call (close_Valid_ref K a0) Tryz.call119 rfl rfl rfl fun x2 => ?_)
    refine RefL.pure rfl rfl (RanP.assign rfl) ?_
    refine RefL.nil ?_
    refine RefE.next ?_
    refine RefC.cond rfl ?_ ?_
    · refine RefC.seq ?_
      refine RefC.region ?_
      refine RefL.pure rfl rfl (RanP.move rfl) ?_
      refine RefL.pure rfl rfl (RanP.assign rfl) ?_
      refine RefL.nil ?_
      refine RefE.next ?_
      refine RefC.ret ?_
      refine RefE.blockRet ?_
      refine RefE.thenRet ?_
      refine RefE.retV rfl ?_
      refine RefV.tmp rfl ?_
      exact RefV.nil rfl
    · refine RefC.skip ?_
      refine RefE.blockNormal ?_
      refine RefE.next ?_
      refine RefC.seq ?_
      refine RefC.region ?_
      refine RefL.pure rfl rfl (RanP.assign rfl) ?_
      refine RefL.nil ?_
      refine RefE.next ?_
      refine RefC.ret ?_
      refine RefE.retV rfl ?_
      refine RefV.tmp rfl ?_
      exact RefV.nil rfl

def leg_Leg_take (K : Nat) (a0 : Option Addr) (a1 : Tapi_Frame) : G (Tapi_Event × Bool) :=
  new (Agg.cells a1) 61 fun x1 =>
  new [.int .i64 (0 : Int), .int .i64 (0 : Int), .string (ByteArray.mk #[])] 52 fun x2 =>
  bnd (
    drw2 (
      nn a0 fun x15 =>
      ldP (x15.add 13) fun x16 =>
      ldG (α := Tapi_Frame) x1 fun x17 =>
      bnd (msg_Machine_Take K x16 x17) fun x18 =>
      new [.int .i64 (0 : Int), .int .i64 (0 : Int), .string (ByteArray.mk #[])] 52 fun x19 =>
      st x19 (.agg (Agg.cells x18.1).toArray) <|
      ret (x19, x18.2.1, x18.2.2)) (
      nn a0 fun x20 =>
      wld fun w22 =>
      ldP (x20.add 13) fun x21 =>
      wld fun w24 =>
      ldG (α := Tapi_Frame) x1 fun x23 =>
      new [.int .i64 (0 : Int), .int .i64 (0 : Int), .string (ByteArray.mk #[])] 52 fun x25 =>
      agr (like (x20.add 13) 1 w22) <|
      agr (like x1 (Agg.size Tapi_Frame) w24) <|
      bnd (msg_Machine_Take K x21 x23) fun x26 =>
      st x25 (.agg (Agg.cells x26.1).toArray) <|
      ret (x25, x26.2.1, x26.2.2))) fun (s27 : Addr × Bool × Int) =>
  lt (s27.2.2 != (0 : Int)) fun x28 =>
  if x28 = true then
    bnd (leg_Leg_fail K a0 s27.2.2) fun x29 =>
    st x2 (.agg (Agg.cells (Tapi_Event.mk (0 : Int) (0 : Int) (ByteArray.mk #[]))).toArray) <|
    ldG (α := Tapi_Event) x2 fun r30 =>
    ret (r30, false)
  else
    bnd (
      if s27.2.1 = true then
        ldI .i64 (s27.1.add 0) fun x32 =>
        ret (x32 == (9 : Int))
      else
        ret false) fun (x31 : Bool) =>
    if x31 = true then
      ldS (s27.1.add 2) fun x33 =>
      bnd (leg_Leg_pong K a0 x33) fun x34 =>
      st x2 (.agg (Agg.cells (Tapi_Event.mk (0 : Int) (0 : Int) (ByteArray.mk #[]))).toArray) <|
      ldG (α := Tapi_Event) x2 fun r35 =>
      ret (r35, false)
    else
      bnd (
        if s27.2.1 = true then
          ldI .i64 (s27.1.add 0) fun x37 =>
          ret (x37 == (8 : Int))
        else
          ret false) fun (x36 : Bool) =>
      bnd (
        if x36 = true then
          nn a0 fun x42 =>
          st (x42.add 21) (.bool true) <|
          ldI .i64 (s27.1.add 1) fun x43 =>
          bnd (close_Across K x43) fun x44 =>
          bnd (leg_Leg_Close K a0 x44 (ByteArray.mk #[])) fun x45 =>
          ret ()
        else
          ret ()) fun (s46 : Unit) =>
      ldG (α := Tapi_Event) s27.1 fun x47 =>
      st x2 (.agg (Agg.cells x47).toArray) <|
      ldG (α := Tapi_Event) x2 fun r48 =>
      ret (r48, s27.2.1)
set_option maxRecDepth 100000 in
theorem leg_Leg_take_ref (K : Nat) (a0 : Option Addr) (a1 : Tapi_Frame) : Does Tryz.prog 72 [.pointer a0, .agg (Agg.cells a1).toArray] (leg_Leg_take K a0 a1) (fun r => .tuple #[.agg (Agg.cells r.1).toArray, .bool r.2]) := by
  refine Does.of Tryz.func72 rfl rfl rfl ?_
  unfold leg_Leg_take
  refine RefC.seq ?_
  refine RefC.region ?_
  refine RefL.hv rfl rfl (Hv.box rfl rfl fun x1 => ?_)
  refine RefL.hv rfl rfl (Hv.newZ Tryz.zeroValue52 rfl fun x2 => ?_)
  refine RefL.pure rfl rfl (RanP.assign rfl) ?_
  refine RefL.nil ?_
  refine RefE.next ?_
  refine RefC.seq ?_
  refine RefC.cut (enc := fun (s27 : Addr × Bool × Int) => ([(6, .pointer (some s27.1)), (7, .bool s27.2.1), (8, .int .i64 s27.2.2), (0, .pointer a0), (4, .pointer (some x2))] : Env)) ?_ ?_
  · refine RefC.draw2 mixed [0, 1, 3, 7, 0, 31, 63, 127, 127, 127, 0, 1279, 3583, 8191] [.lp 0, .lp 1, .lp 2, .li 3, .li 4, .hv 5, .lp 6, .lp 7, .lp 8, .lp 9, .hv 10, .hv 11, .lp 12, .lp 13] [.lp 0, .lp 1, .lp 2, .li 3, .li 4, .hv 10, .re 3, .re 4, .hv 5, .lp 6, .lp 7, .lp 8, .lp 9, .hv 11, .lp 12, .lp 13] (by kernel_rfl) ?_ ?_
    · refine RefD.pure (at_ rfl) rfl (RanP.move rfl) ?_
      refine RefD.any (at_ rfl) rfl (Lt.nn rfl fun x15 => ?_)
      refine RefD.pure (at_ rfl) rfl (RanP.fieldAddr fa_109_2 rfl) ?_
      refine RefD.li0 (at_ rfl) rfl (Lt.ldP Tryz.isAgg104 rfl fun x16 => ?_)
      refine RefD.li0 (at_ rfl) rfl (Lt.ldG (τ := Tapi_Frame) Tryz.isAgg61 Tryz.sizeOf61 rfl fun x17 => ?_)
      refine RefD.hv (at_ rfl) rfl (Hv.call (msg_Machine_Take_ref K x16 x17) Tryz.call111 rfl rfl rfl fun x18 => ?_)
      refine RefD.pure (at_ rfl) rfl (RanP.move rfl) ?_
      refine RefD.pure (at_ rfl) rfl (RanP.extract rfl rfl) ?_
      refine RefD.pure (at_ rfl) rfl (RanP.extract rfl rfl) ?_
      refine RefD.pure (at_ rfl) rfl (RanP.extract rfl rfl) ?_
      refine RefD.hv (at_ rfl) rfl (Hv.newZ Tryz.zeroValue52 rfl fun x19 => ?_)
      refine RefD.hv (at_ rfl) rfl (Hv.st Tryz.sizeOf52 rfl rfl rfl ?_)
      refine RefD.pure (at_ rfl) rfl (RanP.assign rfl) ?_
      refine RefD.pure (at_ rfl) rfl (RanP.assign rfl) ?_
      refine RefD.nil ?_
      exact RefE.fin (s := (x19, x18.2.1, x18.2.2)) ⟨rfl, rfl, rfl, rfl, rfl, trivial⟩
    · refine RefD.pure (at_ rfl) rfl (RanP.move rfl) ?_
      refine RefD.any (at_ rfl) rfl (Lt.nn rfl fun x20 => ?_)
      refine RefD.pure (at_ rfl) rfl (RanP.fieldAddr fa_109_2 rfl) ?_
      refine RefD.li (at_ rfl) rfl fun w22 => (Lt.ldP Tryz.isAgg104 rfl fun x21 => ?_)
      refine RefD.li (at_ rfl) rfl fun w24 => (Lt.ldG (τ := Tapi_Frame) Tryz.isAgg61 Tryz.sizeOf61 rfl fun x23 => ?_)
      refine RefD.hv (at_ rfl) rfl (Hv.newZ Tryz.zeroValue52 rfl fun x25 => ?_)
      refine RefD.re rfl ?_
      refine RefD.re rfl ?_
      refine RefD.hv (at_ rfl) rfl (Hv.call (msg_Machine_Take_ref K x21 x23) Tryz.call111 rfl rfl rfl fun x26 => ?_)
      refine RefD.pure (at_ rfl) rfl (RanP.move rfl) ?_
      refine RefD.pure (at_ rfl) rfl (RanP.extract rfl rfl) ?_
      refine RefD.pure (at_ rfl) rfl (RanP.extract rfl rfl) ?_
      refine RefD.pure (at_ rfl) rfl (RanP.extract rfl rfl) ?_
      refine RefD.hv (at_ rfl) rfl (Hv.st Tryz.sizeOf52 rfl rfl rfl ?_)
      refine RefD.pure (at_ rfl) rfl (RanP.assign rfl) ?_
      refine RefD.pure (at_ rfl) rfl (RanP.assign rfl) ?_
      refine RefD.nil ?_
      exact RefE.fin (s := (x25, x26.2.1, x26.2.2)) ⟨rfl, rfl, rfl, rfl, rfl, trivial⟩
  · intro s27
    refine RefE.next ?_
    refine RefC.seq ?_
    refine RefC.block ?_
    refine RefC.seq ?_
    refine RefC.region ?_
    refine RefL.pure rfl rfl (RanP.move rfl) ?_
    refine RefL.pure rfl rfl (RanP.neq rfl rfl) ?_
    refine RefL.pure rfl rfl (RanP.assign rfl) ?_
    refine RefL.lt 19 (fun y => .bool y) rfl fun x28 => ?_
    refine RefL.nil ?_
    refine RefE.next ?_
    refine RefC.cond rfl ?_ ?_
    · refine RefC.seq ?_
      refine RefC.region ?_
      refine RefL.pure rfl rfl (RanP.move rfl) ?_
      refine RefL.pure rfl rfl (RanP.move rfl) ?_
      refine RefL.hv rfl rfl (Hv.call (leg_Leg_fail_ref K a0 s27.2.2) Tryz.call73 rfl rfl rfl fun x29 => ?_)
      refine RefL.nil ?_
      refine RefE.next ?_
      refine RefC.seq ?_
      refine RefC.region ?_
      refine RefL.pure rfl rfl (RanP.build rfl (v := .agg (Agg.cells (Tapi_Event.mk (0 : Int) (0 : Int) (ByteArray.mk #[]))).toArray) (fun _ => by kernel_rfl)) ?_
      refine RefL.hv rfl rfl (Hv.st Tryz.sizeOf52 rfl rfl rfl ?_)
      refine RefL.pure rfl rfl (RanP.assign rfl) ?_
      refine RefL.nil ?_
      refine RefE.next ?_
      refine RefC.ret ?_
      refine RefE.blockRet ?_
      refine RefE.thenRet ?_
      refine RefE.retV rfl ?_
      refine RefV.cellG Tryz.isAgg52 Tryz.sizeOf52 rfl fun r30 => ?_
      refine RefV.tmp rfl ?_
      exact RefV.nil rfl
    · refine RefC.seq ?_
      refine RefC.region ?_
      refine RefL.pure rfl rfl (RanP.move rfl) ?_
      refine RefL.pure rfl rfl (RanP.move rfl) ?_
      refine RefL.cut (enc := fun (x31 : Bool) => ([(32, .bool x31), (0, .pointer a0), (4, .pointer (some x2)), (6, .pointer (some s27.1)), (7, .bool s27.2.1)] : Env)) 4 ?_ ?_
      · refine RefL.ite (s := 28) rfl ?_ ?_
        · refine RefL.pure rfl rfl (RanP.fieldAddr fa_52_0 rfl) ?_
          refine RefL.li rfl rfl (Lt.ldI Tryz.isAgg3 rfl fun x32 => ?_)
          refine RefL.pure rfl rfl (RanP.eql rfl rfl) ?_
          refine RefL.pure rfl rfl (RanP.pickT rfl rfl) ?_
          refine RefL.nil ?_
          exact RefE.fin (s := (x32 == (9 : Int))) ⟨rfl, rfl, rfl, rfl, rfl, trivial⟩
        · refine RefL.skip rfl rfl ?_
          refine RefL.skip rfl rfl ?_
          refine RefL.skip rfl rfl ?_
          refine RefL.pure rfl rfl (RanP.pickF rfl rfl) ?_
          refine RefL.nil ?_
          exact RefE.fin (s := false) ⟨rfl, rfl, rfl, rfl, rfl, trivial⟩
      · intro x31
        refine RefL.pure rfl rfl (RanP.assign rfl) ?_
        refine RefL.nil ?_
        refine RefE.next ?_
        refine RefC.cond rfl ?_ ?_
        · refine RefC.seq ?_
          refine RefC.region ?_
          refine RefL.pure rfl rfl (RanP.move rfl) ?_
          refine RefL.pure rfl rfl (RanP.fieldAddr fa_52_2 rfl) ?_
          refine RefL.li rfl rfl (Lt.ldS Tryz.isAgg9 rfl fun x33 => ?_)
          refine RefL.hv rfl rfl (Hv.call (leg_Leg_pong_ref K a0 x33) Tryz.call112 rfl rfl rfl fun x34 => ?_)
          refine RefL.nil ?_
          refine RefE.next ?_
          refine RefC.seq ?_
          refine RefC.region ?_
          refine RefL.pure rfl rfl (RanP.build rfl (v := .agg (Agg.cells (Tapi_Event.mk (0 : Int) (0 : Int) (ByteArray.mk #[]))).toArray) (fun _ => by kernel_rfl)) ?_
          refine RefL.hv rfl rfl (Hv.st Tryz.sizeOf52 rfl rfl rfl ?_)
          refine RefL.pure rfl rfl (RanP.assign rfl) ?_
          refine RefL.nil ?_
          refine RefE.next ?_
          refine RefC.ret ?_
          refine RefE.blockRet ?_
          refine RefE.thenRet ?_
          refine RefE.retV rfl ?_
          refine RefV.cellG Tryz.isAgg52 Tryz.sizeOf52 rfl fun r35 => ?_
          refine RefV.tmp rfl ?_
          exact RefV.nil rfl
        · refine RefC.seq ?_
          refine RefC.region ?_
          refine RefL.pure rfl rfl (RanP.move rfl) ?_
          refine RefL.pure rfl rfl (RanP.move rfl) ?_
          refine RefL.cut (enc := fun (x36 : Bool) => ([(44, .bool x36), (0, .pointer a0), (4, .pointer (some x2)), (6, .pointer (some s27.1)), (7, .bool s27.2.1)] : Env)) 4 ?_ ?_
          · refine RefL.ite (s := 40) rfl ?_ ?_
            · refine RefL.pure rfl rfl (RanP.fieldAddr fa_52_0 rfl) ?_
              refine RefL.li rfl rfl (Lt.ldI Tryz.isAgg3 rfl fun x37 => ?_)
              refine RefL.pure rfl rfl (RanP.eql rfl rfl) ?_
              refine RefL.pure rfl rfl (RanP.pickT rfl rfl) ?_
              refine RefL.nil ?_
              exact RefE.fin (s := (x37 == (8 : Int))) ⟨rfl, rfl, rfl, rfl, rfl, trivial⟩
            · refine RefL.skip rfl rfl ?_
              refine RefL.skip rfl rfl ?_
              refine RefL.skip rfl rfl ?_
              refine RefL.pure rfl rfl (RanP.pickF rfl rfl) ?_
              refine RefL.nil ?_
              exact RefE.fin (s := false) ⟨rfl, rfl, rfl, rfl, rfl, trivial⟩
          · intro x36
            refine RefL.pure rfl rfl (RanP.assign rfl) ?_
            refine RefL.nil ?_
            refine RefE.next ?_
            refine RefC.cut (enc := fun (s46 : Unit) => ([(4, .pointer (some x2)), (6, .pointer (some s27.1)), (7, .bool s27.2.1)] : Env)) ?_ ?_
            · refine RefC.cond rfl ?_ ?_
              · refine RefC.seq ?_
                refine RefC.region ?_
                refine RefL.pure rfl rfl (RanP.move rfl) ?_
                refine RefL.li rfl rfl (Lt.nn rfl fun x42 => ?_)
                refine RefL.pure rfl rfl (RanP.fieldAddr fa_109_9 rfl) ?_
                refine RefL.hv rfl rfl (Hv.st Tryz.sizeOf4 rfl rfl rfl ?_)
                refine RefL.nil ?_
                refine RefE.next ?_
                refine RefC.region ?_
                refine RefL.pure rfl rfl (RanP.move rfl) ?_
                refine RefL.pure rfl rfl (RanP.fieldAddr fa_52_1 rfl) ?_
                refine RefL.li rfl rfl (Lt.ldI Tryz.isAgg3 rfl fun x43 => ?_)
                refine RefL.hv rfl rfl (Hv.call (close_Across_ref K x43) Tryz.call113 rfl rfl rfl fun x44 => ?_)
                refine RefL.hv rfl rfl (Hv.call (leg_Leg_Close_ref K a0 x44 (ByteArray.mk #[])) Tryz.call27 rfl rfl rfl fun x45 => ?_)
                refine RefL.nil ?_
                exact RefE.fin (s := ()) ⟨rfl, rfl, rfl, trivial⟩
              · refine RefC.skip ?_
                exact RefE.fin (s := ()) ⟨rfl, rfl, rfl, trivial⟩
            · intro s46
              refine RefE.blockNormal ?_
              refine RefE.next ?_
              refine RefC.seq ?_
              refine RefC.region ?_
              refine RefL.li rfl rfl (Lt.ldG (τ := Tapi_Event) Tryz.isAgg52 Tryz.sizeOf52 rfl fun x47 => ?_)
              refine RefL.pure rfl rfl (RanP.move rfl) ?_
              refine RefL.hv rfl rfl (Hv.st Tryz.sizeOf52 rfl rfl rfl ?_)
              refine RefL.pure rfl rfl (RanP.assign rfl) ?_
              refine RefL.nil ?_
              refine RefE.next ?_
              refine RefC.ret ?_
              refine RefE.retV rfl ?_
              refine RefV.cellG Tryz.isAgg52 Tryz.sizeOf52 rfl fun r48 => ?_
              refine RefV.tmp rfl ?_
              exact RefV.nil rfl

def leg_Leg_Feed_l0 (K : Nat) (x8 : Sl × Int) (a0 : Option Addr) (again : (Sl × Int) → G (Sl ⊕ Sl)) (s66 : Sl × Int) : G (Sl ⊕ Sl) :=
  if (decide (s66.2 < (x8.1.n : Int))) = true then
    ixA x8.1 s66.2 8 fun x67 =>
    ldG (α := Tapi_Frame) x67 fun x68 =>
    new [.bool false, .int .i64 (0 : Int), .bool false, .int .u8 (0 : Int), .int .u8 (0 : Int), .int .u8 (0 : Int), .int .u8 (0 : Int), .string (ByteArray.mk #[])] 61 fun x69 =>
    st x69 (.agg (Agg.cells x68).toArray) <|
    ldG (α := Tapi_Frame) x69 fun x70 =>
    bnd (leg_Leg_take K a0 x70) fun x71 =>
    new [.int .i64 (0 : Int), .int .i64 (0 : Int), .string (ByteArray.mk #[])] 52 fun x72 =>
    st x72 (.agg (Agg.cells x71.1).toArray) <|
    bnd (
      if x71.2 = true then
        ldG (α := Tapi_Event) x72 fun x76 =>
        new (Agg.cells x76) 52 fun x77 =>
        appS 52 3 32 [.int .i64 (0 : Int), .int .i64 (0 : Int), .string (ByteArray.mk #[])] s66.1 (Sl.mk (some x77) 1 1) fun x78 =>
        ret (x78)
      else
        ret (s66.1)) fun (s79 : Sl) =>
    nn a0 fun x80 =>
    ldB (x80.add 21) fun x81 =>
    bnd (
      if x81 = true then
        ret true
      else
        nn a0 fun x83 =>
        ldI .i64 (x83.add 22) fun x84 =>
        ret (x84 != (0 : Int))) fun (x82 : Bool) =>
    if x82 = true then
      inr (ret s79)
    else
      again (s79, (IntKind.wrap .i64 (s66.2 + (1 : Int))))
  else
    ret (.inl (s66.1))
def leg_Leg_Feed (K : Nat) (a0 : Option Addr) (a1 : Sl) : G (Sl) :=
  nn a0 fun x1 =>
  ldB (x1.add 21) fun x2 =>
  bnd (
    if x2 = true then
      ret true
    else
      nn a0 fun x4 =>
      ldI .i64 (x4.add 22) fun x5 =>
      ret (x5 != (0 : Int))) fun (x3 : Bool) =>
  if x3 = true then
    ret Sl.nil
  else
    nn a0 fun x6 =>
    ldP (x6.add 12) fun x7 =>
    bnd (stream_Stream_Feed K x7 a1) fun x8 =>
    bnd (
      loopG (leg_Leg_Feed_l0 K x8 a0) K (Sl.nil, (0 : Int))) (sumK fun (s85 : Sl) =>
    bnd (
      if (x8.2 != (0 : Int)) = true then
        bnd (leg_Leg_fail K a0 x8.2) fun x87 =>
        ret ()
      else
        ret ()) fun (s88 : Unit) =>
    ret s85)
set_option maxRecDepth 100000 in
theorem leg_Leg_Feed_ref (K : Nat) (a0 : Option Addr) (a1 : Sl) : Does Tryz.prog 24 [.pointer a0, .slice a1.a a1.n a1.c] (leg_Leg_Feed K a0 a1) (fun r => .slice r.a r.n r.c) := by
  refine Does.of Tryz.func24 rfl rfl rfl ?_
  unfold leg_Leg_Feed
  refine RefC.seq ?_
  refine RefC.region ?_
  refine RefL.pure rfl rfl (RanP.assign rfl) ?_
  refine RefL.nil ?_
  refine RefE.next ?_
  refine RefC.seq ?_
  refine RefC.seq ?_
  refine RefC.region ?_
  refine RefL.pure rfl rfl (RanP.move rfl) ?_
  refine RefL.li rfl rfl (Lt.nn rfl fun x1 => ?_)
  refine RefL.pure rfl rfl (RanP.fieldAddr fa_109_9 rfl) ?_
  refine RefL.li rfl rfl (Lt.ldB Tryz.isAgg4 rfl fun x2 => ?_)
  refine RefL.pure rfl rfl (RanP.move rfl) ?_
  refine RefL.cut (enc := fun (x3 : Bool) => ([(22, .bool x3), (0, .pointer a0), (1, .slice a1.a a1.n a1.c)] : Env)) 6 ?_ ?_
  · refine RefL.ite (s := 16) rfl ?_ ?_
    · refine RefL.skip rfl rfl ?_
      refine RefL.skip rfl rfl ?_
      refine RefL.skip rfl rfl ?_
      refine RefL.skip rfl rfl ?_
      refine RefL.skip rfl rfl ?_
      refine RefL.pure rfl rfl (RanP.pickT rfl rfl) ?_
      refine RefL.nil ?_
      exact RefE.fin (s := true) ⟨rfl, rfl, rfl, trivial⟩
    · refine RefL.pure rfl rfl (RanP.move rfl) ?_
      refine RefL.li rfl rfl (Lt.nn rfl fun x4 => ?_)
      refine RefL.pure rfl rfl (RanP.fieldAddr fa_109_10 rfl) ?_
      refine RefL.li rfl rfl (Lt.ldI Tryz.isAgg31 rfl fun x5 => ?_)
      refine RefL.pure rfl rfl (RanP.neq rfl rfl) ?_
      refine RefL.pure rfl rfl (RanP.pickF rfl rfl) ?_
      refine RefL.nil ?_
      exact RefE.fin (s := (x5 != (0 : Int))) ⟨rfl, rfl, rfl, trivial⟩
  · intro x3
    refine RefL.nil ?_
    refine RefE.next ?_
    refine RefC.cond rfl ?_ ?_
    · refine RefC.seq ?_
      refine RefC.region ?_
      refine RefL.pure rfl rfl (RanP.assign rfl) ?_
      refine RefL.nil ?_
      refine RefE.next ?_
      refine RefC.ret ?_
      refine RefE.thenRet ?_
      refine RefE.retV rfl ?_
      refine RefV.tmp rfl ?_
      exact RefV.nil rfl
    · refine RefC.skip ?_
      refine RefE.next ?_
      refine RefC.seq ?_
      refine RefC.region ?_
      refine RefL.pure rfl rfl (RanP.move rfl) ?_
      refine RefL.li rfl rfl (Lt.nn rfl fun x6 => ?_)
      refine RefL.pure rfl rfl (RanP.fieldAddr fa_109_1 rfl) ?_
      refine RefL.li rfl rfl (Lt.ldP Tryz.isAgg103 rfl fun x7 => ?_)
      refine RefL.pure rfl rfl (RanP.move rfl) ?_
      refine RefL.hv rfl rfl (Hv.call (stream_Stream_Feed_ref K x7 a1) Tryz.call71 rfl rfl rfl fun x8 => ?_)
      refine RefL.pure rfl rfl (RanP.move rfl) ?_
      refine RefL.pure rfl rfl (RanP.extract rfl rfl) ?_
      refine RefL.pure rfl rfl (RanP.extract rfl rfl) ?_
      refine RefL.pure rfl rfl (RanP.assign rfl) ?_
      refine RefL.pure rfl rfl (RanP.assign rfl) ?_
      refine RefL.nil ?_
      refine RefE.next ?_
      refine RefC.seq ?_
      refine RefC.region ?_
      refine RefL.pure rfl rfl (RanP.assign rfl) ?_
      refine RefL.nil ?_
      refine RefE.next ?_
      refine RefC.seq ?_
      refine RefC.seq ?_
      refine RefC.region ?_
      refine RefL.pure rfl rfl (RanP.move rfl) ?_
      refine RefL.pure rfl rfl (RanP.lenSl rfl Tryz.underlying34 rfl) ?_
      refine RefL.pure rfl rfl (RanP.move rfl) ?_
      refine RefL.nil ?_
      refine RefE.next ?_
      refine RefC.cutSum (enc := fun (s85 : Sl) => ([(7, .slice s85.a s85.n s85.c), (0, .pointer a0), (6, .int .i64 x8.2)] : Env)) (KThen.mono KRet.mono) ?_ ?_
      · refine RefC.block ?_
        refine RefC.loopW (enc := fun (s66 : Sl × Int) => ([(7, .slice s66.1.a s66.1.n s66.1.c), (34, .int .i64 s66.2), (0, .pointer a0), (6, .int .i64 x8.2), (32, .slice x8.1.a x8.1.n x8.1.c), (33, .int .i64 (x8.1.n : Int))] : Env)) ⟨rfl, rfl, rfl, rfl, rfl, rfl, trivial⟩ ?_ _
        intro again k ih s66
        unfold leg_Leg_Feed_l0
        refine RefC.seq ?_
        refine RefC.region ?_
        refine RefL.pure rfl rfl (RanP.lss rfl rfl) ?_
        refine RefL.nil ?_
        refine RefE.next ?_
        refine RefC.seq ?_
        refine RefC.cond rfl ?_ ?_
        · refine RefC.skip ?_
          refine RefE.next ?_
          refine RefC.seq ?_
          refine RefC.block ?_
          refine RefC.seq ?_
          refine RefC.region ?_
          refine RefL.li rfl rfl (Lt.ixA Tryz.underlying34 Tryz.sizeOf61 rfl rfl fun x67 => ?_)
          refine RefL.li rfl rfl (Lt.ldG (τ := Tapi_Frame) Tryz.isAgg61 Tryz.sizeOf61 rfl fun x68 => ?_)
          refine RefL.hv rfl rfl (Hv.newZ Tryz.zeroValue61 rfl fun x69 => ?_)
          refine RefL.hv rfl rfl (Hv.st Tryz.sizeOf61 rfl rfl rfl ?_)
          refine RefL.nil ?_
          refine RefE.next ?_
          refine RefC.seq ?_
          refine RefC.region ?_
          refine RefL.pure rfl rfl (RanP.move rfl) ?_
          refine RefL.li rfl rfl (Lt.ldG (τ := Tapi_Frame) Tryz.isAgg61 Tryz.sizeOf61 rfl fun x70 => ?_)
          refine RefL.hv rfl rfl (Hv.call (leg_Leg_take_ref K a0 x70) Tryz.call72 rfl rfl rfl fun x71 => ?_)
          refine RefL.pure rfl rfl (RanP.move rfl) ?_
          refine RefL.pure rfl rfl (RanP.extract rfl rfl) ?_
          refine RefL.pure rfl rfl (RanP.extract rfl rfl) ?_
          refine RefL.hv rfl rfl (Hv.newZ Tryz.zeroValue52 rfl fun x72 => ?_)
          refine RefL.hv rfl rfl (Hv.st Tryz.sizeOf52 rfl rfl rfl ?_)
          refine RefL.pure rfl rfl (RanP.assign rfl) ?_
          refine RefL.nil ?_
          refine RefE.next ?_
          refine RefC.seq ?_
          refine RefC.seq ?_
          refine RefC.region ?_
          refine RefL.pure rfl rfl (RanP.move rfl) ?_
          refine RefL.nil ?_
          refine RefE.next ?_
          refine RefC.cut (enc := fun (s79 : Sl) => ([(7, .slice s79.a s79.n s79.c), (0, .pointer a0), (6, .int .i64 x8.2), (32, .slice x8.1.a x8.1.n x8.1.c), (33, .int .i64 (x8.1.n : Int)), (34, .int .i64 s66.2)] : Env)) ?_ ?_
          · refine RefC.cond rfl ?_ ?_
            · refine RefC.region ?_
              refine RefL.pure rfl rfl (RanP.move rfl) ?_
              refine RefL.li rfl rfl (Lt.ldG (τ := Tapi_Event) Tryz.isAgg52 Tryz.sizeOf52 rfl fun x76 => ?_)
              refine RefL.hv rfl rfl (Hv.buildSlice rfl (cs := (Agg.cells x76)) (e := 52) (fun _ => by kernel_rfl) fun x77 => ?_)
              refine RefL.hv rfl rfl (Hv.appS (i := Tryz.t52) rfl Tryz.underlying47 Tryz.underlying47 rfl rfl rfl rfl fun x78 => ?_)
              refine RefL.pure rfl rfl (RanP.assign rfl) ?_
              refine RefL.nil ?_
              exact RefE.fin (s := (x78)) ⟨rfl, rfl, rfl, rfl, rfl, rfl, trivial⟩
            · refine RefC.skip ?_
              exact RefE.fin (s := (s66.1)) ⟨rfl, rfl, rfl, rfl, rfl, rfl, trivial⟩
          · intro s79
            refine RefE.next ?_
            refine RefC.seq ?_
            refine RefC.region ?_
            refine RefL.pure rfl rfl (RanP.move rfl) ?_
            refine RefL.li rfl rfl (Lt.nn rfl fun x80 => ?_)
            refine RefL.pure rfl rfl (RanP.fieldAddr fa_109_9 rfl) ?_
            refine RefL.li rfl rfl (Lt.ldB Tryz.isAgg4 rfl fun x81 => ?_)
            refine RefL.pure rfl rfl (RanP.move rfl) ?_
            refine RefL.cut (enc := fun (x82 : Bool) => ([(59, .bool x82), (0, .pointer a0), (6, .int .i64 x8.2), (7, .slice s79.a s79.n s79.c), (32, .slice x8.1.a x8.1.n x8.1.c), (33, .int .i64 (x8.1.n : Int)), (34, .int .i64 s66.2)] : Env)) 6 ?_ ?_
            · refine RefL.ite (s := 53) rfl ?_ ?_
              · refine RefL.skip rfl rfl ?_
                refine RefL.skip rfl rfl ?_
                refine RefL.skip rfl rfl ?_
                refine RefL.skip rfl rfl ?_
                refine RefL.skip rfl rfl ?_
                refine RefL.pure rfl rfl (RanP.pickT rfl rfl) ?_
                refine RefL.nil ?_
                exact RefE.fin (s := true) ⟨rfl, rfl, rfl, rfl, rfl, rfl, rfl, trivial⟩
              · refine RefL.pure rfl rfl (RanP.move rfl) ?_
                refine RefL.li rfl rfl (Lt.nn rfl fun x83 => ?_)
                refine RefL.pure rfl rfl (RanP.fieldAddr fa_109_10 rfl) ?_
                refine RefL.li rfl rfl (Lt.ldI Tryz.isAgg31 rfl fun x84 => ?_)
                refine RefL.pure rfl rfl (RanP.neq rfl rfl) ?_
                refine RefL.pure rfl rfl (RanP.pickF rfl rfl) ?_
                refine RefL.nil ?_
                exact RefE.fin (s := (x84 != (0 : Int))) ⟨rfl, rfl, rfl, rfl, rfl, rfl, rfl, trivial⟩
            · intro x82
              refine RefL.nil ?_
              refine RefE.next ?_
              refine RefC.cond rfl ?_ ?_
              · refine RefC.seq ?_
                refine RefC.region ?_
                refine RefL.pure rfl rfl (RanP.move rfl) ?_
                refine RefL.pure rfl rfl (RanP.assign rfl) ?_
                refine RefL.nil ?_
                refine RefE.next ?_
                refine RefC.ret ?_
                refine RefE.blockRet ?_
                refine RefE.thenRet ?_
                refine RefE.roundRet ?_
                refine RefE.blockRet ?_
                refine RefE.finR ?_
                refine RefE.thenRet ?_
                refine RefE.retV rfl ?_
                refine RefV.tmp rfl ?_
                exact RefV.nil rfl
              · refine RefC.skip ?_
                refine RefE.blockNormal ?_
                refine RefE.next ?_
                refine RefC.region ?_
                refine RefL.pure rfl rfl (RanP.add rfl rfl) ?_
                refine RefL.pure rfl rfl (RanP.move rfl) ?_
                refine RefL.nil ?_
                exact RefE.again (ih (s79, (IntKind.wrap .i64 (s66.2 + (1 : Int))))) ⟨rfl, rfl, rfl, rfl, rfl, rfl, trivial⟩
        · refine RefC.exit ?_
          refine RefE.thenExit ?_
          refine RefE.roundExit ?_
          refine RefE.blockExit ?_
          exact RefE.finL (s := (s66.1)) ⟨rfl, rfl, rfl, trivial⟩
      · intro s85
        refine RefE.next ?_
        refine RefC.seq ?_
        refine RefC.seq ?_
        refine RefC.region ?_
        refine RefL.pure rfl rfl (RanP.move rfl) ?_
        refine RefL.pure rfl rfl (RanP.neq rfl rfl) ?_
        refine RefL.nil ?_
        refine RefE.next ?_
        refine RefC.cut (enc := fun (s88 : Unit) => ([(7, .slice s85.a s85.n s85.c)] : Env)) ?_ ?_
        · refine RefC.cond rfl ?_ ?_
          · refine RefC.region ?_
            refine RefL.pure rfl rfl (RanP.move rfl) ?_
            refine RefL.pure rfl rfl (RanP.move rfl) ?_
            refine RefL.hv rfl rfl (Hv.call (leg_Leg_fail_ref K a0 x8.2) Tryz.call73 rfl rfl rfl fun x87 => ?_)
            refine RefL.nil ?_
            exact RefE.fin (s := ()) ⟨rfl, trivial⟩
          · refine RefC.skip ?_
            exact RefE.fin (s := ()) ⟨rfl, trivial⟩
        · intro s88
          refine RefE.next ?_
          refine RefC.seq ?_
          refine RefC.region ?_
          refine RefL.pure rfl rfl (RanP.move rfl) ?_
          refine RefL.pure rfl rfl (RanP.assign rfl) ?_
          refine RefL.nil ?_
          refine RefE.next ?_
          refine RefC.ret ?_
          refine RefE.retV rfl ?_
          refine RefV.tmp rfl ?_
          exact RefV.nil rfl

def queue_list_api_Event__push (K : Nat) (a0 : Option Addr) (a1 : Tapi_Event) : G (Unit) :=
  new (Agg.cells a1) 52 fun x1 =>
  nn a0 fun x2 =>
  ldSl (x2.add 0) fun x3 =>
  lt (x3.n : Int) fun x4 =>
  drw <|
  nn a0 fun x5 =>
  wld fun w7 =>
  ldSl (x5.add 0) fun x6 =>
  slS x6 none (some x4) (some x4) 3 fun x8 =>
  ldG (α := Tapi_Event) x1 fun x9 =>
  new (Agg.cells x9) 52 fun x10 =>
  agr (like (x5.add 0) 1 w7) <|
  appS 52 3 32 [.int .i64 (0 : Int), .int .i64 (0 : Int), .string (ByteArray.mk #[])] x8 (Sl.mk (some x10) 1 1) fun x11 =>
  nn a0 fun x12 =>
  st (x12.add 0) (.slice x11.a x11.n x11.c) <|
  ret ()
set_option maxRecDepth 100000 in
theorem queue_list_api_Event__push_ref (K : Nat) (a0 : Option Addr) (a1 : Tapi_Event) : Does Tryz.prog 157 [.pointer a0, .agg (Agg.cells a1).toArray] (queue_list_api_Event__push K a0 a1) (fun _ => .tuple #[]) := by
  refine Does.of Tryz.func157 rfl rfl rfl ?_
  unfold queue_list_api_Event__push
  refine RefC.seq ?_
  refine RefC.region ?_
  refine RefL.hv rfl rfl (Hv.box rfl rfl fun x1 => ?_)
  refine RefL.nil ?_
  refine RefE.next ?_
  refine RefC.seq ?_
  refine RefC.region ?_
  refine RefL.pure rfl rfl (RanP.move rfl) ?_
  refine RefL.li rfl rfl (Lt.nn rfl fun x2 => ?_)
  refine RefL.pure rfl rfl (RanP.fieldAddr fa_186_0 rfl) ?_
  refine RefL.li rfl rfl (Lt.ldSl Tryz.isAgg47 rfl fun x3 => ?_)
  refine RefL.pure rfl rfl (RanP.lenSl rfl Tryz.underlying47 rfl) ?_
  refine RefL.pure rfl rfl (RanP.assign rfl) ?_
  refine RefL.lt 4 (fun y => .int .i64 y) rfl fun x4 => ?_
  refine RefL.nil ?_
  refine RefE.next ?_
  refine RefC.draw mixed [0, 0, 2, 6, 14, 0, 0, 126, 0, 256, 1022, 2047, 4095, 8191] [.lp 0, .lp 1, .lp 2, .lp 3, .li 4, .lp 5, .lp 6, .lp 7, .li 8, .hv 9, .re 4, .hv 10, .lp 11, .lp 12, .hv 13] (by kernel_rfl) ?_
  refine RefD.pure (at_ rfl) rfl (RanP.move rfl) ?_
  refine RefD.pure (at_ rfl) rfl (RanP.move rfl) ?_
  refine RefD.any (at_ rfl) rfl (Lt.nn rfl fun x5 => ?_)
  refine RefD.pure (at_ rfl) rfl (RanP.fieldAddr fa_186_0 rfl) ?_
  refine RefD.li (at_ rfl) rfl fun w7 => (Lt.ldSl Tryz.isAgg47 rfl fun x6 => ?_)
  refine RefD.pure (at_ rfl) rfl (RanP.move rfl) ?_
  refine RefD.pure (at_ rfl) rfl (RanP.move rfl) ?_
  refine RefD.any (at_ rfl) rfl (Lt.slS (kl := .i64) (kh := .i64) (km := .i64) Tryz.underlying47 Tryz.sizeOf52 rfl rfl rfl rfl (by simp) fun x8 => ?_)
  refine RefD.li0 (at_ rfl) rfl (Lt.ldG (τ := Tapi_Event) Tryz.isAgg52 Tryz.sizeOf52 rfl fun x9 => ?_)
  refine RefD.hv (at_ rfl) rfl (Hv.buildSlice rfl (cs := (Agg.cells x9)) (e := 52) (fun _ => by kernel_rfl) fun x10 => ?_)
  refine RefD.re rfl ?_
  refine RefD.hv (at_ rfl) rfl (Hv.appS (i := Tryz.t52) rfl Tryz.underlying47 Tryz.underlying47 rfl rfl rfl rfl fun x11 => ?_)
  refine RefD.any (at_ rfl) rfl (Lt.nn rfl fun x12 => ?_)
  refine RefD.pure (at_ rfl) rfl (RanP.fieldAddr fa_186_0 rfl) ?_
  refine RefD.hv (at_ rfl) rfl (Hv.st Tryz.sizeOf47 rfl rfl rfl ?_)
  refine RefD.nil ?_
  refine RefE.endV rfl ?_
  exact RefV.nil rfl

def queue_Queue_Put (K : Nat) (a0 : Option Addr) (a1 : Tapi_Event) : G (Bool) :=
  new (Agg.cells a1) 52 fun x1 =>
  ldS (x1.add 2) fun x2 =>
  bnd (queue_Queue_Room K a0 (x2.size : Int)) fun x3 =>
  if (!x3) = true then
    ret false
  else
    drw <|
    nn a0 fun x4 =>
    ldG (α := Tapi_Event) x1 fun x5 =>
    bnd (queue_list_api_Event__push K (some (x4.add 2)) x5) fun x6 =>
    drw <|
    nn a0 fun x7 =>
    ldI .i64 (x7.add 3) fun x8 =>
    ldS (x1.add 2) fun x9 =>
    nn a0 fun x10 =>
    st (x10.add 3) (.int .i64 (IntKind.wrap .i64 (x8 + (x9.size : Int)))) <|
    ret true
set_option maxRecDepth 100000 in
theorem queue_Queue_Put_ref (K : Nat) (a0 : Option Addr) (a1 : Tapi_Event) : Does Tryz.prog 123 [.pointer a0, .agg (Agg.cells a1).toArray] (queue_Queue_Put K a0 a1) (fun r => .bool r) := by
  refine Does.of Tryz.func123 rfl rfl rfl ?_
  unfold queue_Queue_Put
  refine RefC.seq ?_
  refine RefC.region ?_
  refine RefL.hv rfl rfl (Hv.box rfl rfl fun x1 => ?_)
  refine RefL.pure rfl rfl (RanP.assign rfl) ?_
  refine RefL.nil ?_
  refine RefE.next ?_
  refine RefC.seq ?_
  refine RefC.seq ?_
  refine RefC.region ?_
  refine RefL.pure rfl rfl (RanP.move rfl) ?_
  refine RefL.pure rfl rfl (RanP.fieldAddr fa_52_2 rfl) ?_
  refine RefL.li rfl rfl (Lt.ldS Tryz.isAgg9 rfl fun x2 => ?_)
  refine RefL.pure rfl rfl (RanP.lenS rfl Tryz.underlying9 rfl) ?_
  refine RefL.hv rfl rfl (Hv.call (queue_Queue_Room_ref K a0 (x2.size : Int)) Tryz.call85 rfl rfl rfl fun x3 => ?_)
  refine RefL.pure rfl rfl (RanP.not rfl) ?_
  refine RefL.nil ?_
  refine RefE.next ?_
  refine RefC.cond rfl ?_ ?_
  · refine RefC.seq ?_
    refine RefC.region ?_
    refine RefL.pure rfl rfl (RanP.assign rfl) ?_
    refine RefL.nil ?_
    refine RefE.next ?_
    refine RefC.ret ?_
    refine RefE.thenRet ?_
    refine RefE.retV rfl ?_
    refine RefV.tmp rfl ?_
    exact RefV.nil rfl
  · refine RefC.skip ?_
    refine RefE.next ?_
    refine RefC.seq ?_
    refine RefC.draw mixed [0, 1, 3, 0, 15] [.lp 0, .lp 1, .lp 2, .li 3, .hv 4] (by kernel_rfl) ?_
    refine RefD.pure (at_ rfl) rfl (RanP.move rfl) ?_
    refine RefD.any (at_ rfl) rfl (Lt.nn rfl fun x4 => ?_)
    refine RefD.pure (at_ rfl) rfl (RanP.fieldAddr fa_188_2 rfl) ?_
    refine RefD.li0 (at_ rfl) rfl (Lt.ldG (τ := Tapi_Event) Tryz.isAgg52 Tryz.sizeOf52 rfl fun x5 => ?_)
    refine RefD.hv (at_ rfl) rfl (Hv.call (queue_list_api_Event__push_ref K (some (x4.add 2)) x5) Tryz.call157 rfl rfl rfl fun x6 => ?_)
    refine RefD.nil ?_
    refine RefE.next ?_
    refine RefC.seq ?_
    refine RefC.draw mixed [0, 1, 3, 7, 0, 16, 48, 127, 255, 511, 1023] [.lp 0, .lp 1, .lp 2, .li 3, .lp 4, .li 5, .lp 6, .lp 7, .lp 8, .lp 9, .hv 10] (by kernel_rfl) ?_
    refine RefD.pure (at_ rfl) rfl (RanP.move rfl) ?_
    refine RefD.any (at_ rfl) rfl (Lt.nn rfl fun x7 => ?_)
    refine RefD.pure (at_ rfl) rfl (RanP.fieldAddr fa_188_3 rfl) ?_
    refine RefD.li0 (at_ rfl) rfl (Lt.ldI Tryz.isAgg3 rfl fun x8 => ?_)
    refine RefD.pure (at_ rfl) rfl (RanP.fieldAddr fa_52_2 rfl) ?_
    refine RefD.li0 (at_ rfl) rfl (Lt.ldS Tryz.isAgg9 rfl fun x9 => ?_)
    refine RefD.pure (at_ rfl) rfl (RanP.lenS rfl Tryz.underlying9 rfl) ?_
    refine RefD.pure (at_ rfl) rfl (RanP.add rfl rfl) ?_
    refine RefD.any (at_ rfl) rfl (Lt.nn rfl fun x10 => ?_)
    refine RefD.pure (at_ rfl) rfl (RanP.fieldAddr fa_188_3 rfl) ?_
    refine RefD.hv (at_ rfl) rfl (Hv.st Tryz.sizeOf3 rfl rfl rfl ?_)
    refine RefD.nil ?_
    refine RefE.next ?_
    refine RefC.seq ?_
    refine RefC.region ?_
    refine RefL.pure rfl rfl (RanP.assign rfl) ?_
    refine RefL.nil ?_
    refine RefE.next ?_
    refine RefC.ret ?_
    refine RefE.retV rfl ?_
    refine RefV.tmp rfl ?_
    exact RefV.nil rfl

def bridge_side_end (K : Nat) (a0 : Option Addr) (a1 : Int) : G (Unit) :=
  nn a0 fun x1 =>
  ldI .i64 (x1.add 3) fun x2 =>
  if (decide (x2 < (0 : Int))) = true then
    nn a0 fun x3 =>
    st (x3.add 3) (.int .i64 a1) <|
    ret ()
  else
    ret ()
set_option maxRecDepth 100000 in
theorem bridge_side_end_ref (K : Nat) (a0 : Option Addr) (a1 : Int) : Does Tryz.prog 124 [.pointer a0, .int .i64 a1] (bridge_side_end K a0 a1) (fun _ => .tuple #[]) := by
  refine Does.of Tryz.func124 rfl rfl rfl ?_
  unfold bridge_side_end
  refine RefC.seq ?_
  refine RefC.region ?_
  refine RefL.pure rfl rfl (RanP.move rfl) ?_
  refine RefL.li rfl rfl (Lt.nn rfl fun x1 => ?_)
  refine RefL.pure rfl rfl (RanP.fieldAddr fa_138_3 rfl) ?_
  refine RefL.li rfl rfl (Lt.ldI Tryz.isAgg3 rfl fun x2 => ?_)
  refine RefL.pure rfl rfl (RanP.lss rfl rfl) ?_
  refine RefL.nil ?_
  refine RefE.next ?_
  refine RefC.cond rfl ?_ ?_
  · refine RefC.region ?_
    refine RefL.pure rfl rfl (RanP.move rfl) ?_
    refine RefL.pure rfl rfl (RanP.move rfl) ?_
    refine RefL.li rfl rfl (Lt.nn rfl fun x3 => ?_)
    refine RefL.pure rfl rfl (RanP.fieldAddr fa_138_3 rfl) ?_
    refine RefL.hv rfl rfl (Hv.st Tryz.sizeOf3 rfl rfl rfl ?_)
    refine RefL.nil ?_
    refine RefE.endV rfl ?_
    exact RefV.nil rfl
  · refine RefC.skip ?_
    refine RefE.endV rfl ?_
    exact RefV.nil rfl

def leg_Leg_Sent (K : Nat) (a0 : Option Addr) : G (Bool) :=
  nn a0 fun x1 =>
  ldB (x1.add 20) fun x2 =>
  ret x2
set_option maxRecDepth 100000 in
theorem leg_Leg_Sent_ref (K : Nat) (a0 : Option Addr) : Does Tryz.prog 32 [.pointer a0] (leg_Leg_Sent K a0) (fun r => .bool r) := by
  refine Does.of Tryz.func32 rfl rfl rfl ?_
  unfold leg_Leg_Sent
  refine RefC.seq ?_
  refine RefC.region ?_
  refine RefL.pure rfl rfl (RanP.assign rfl) ?_
  refine RefL.nil ?_
  refine RefE.next ?_
  refine RefC.seq ?_
  refine RefC.region ?_
  refine RefL.pure rfl rfl (RanP.move rfl) ?_
  refine RefL.li rfl rfl (Lt.nn rfl fun x1 => ?_)
  refine RefL.pure rfl rfl (RanP.fieldAddr fa_109_8 rfl) ?_
  refine RefL.li rfl rfl (Lt.ldB Tryz.isAgg4 rfl fun x2 => ?_)
  refine RefL.pure rfl rfl (RanP.assign rfl) ?_
  refine RefL.nil ?_
  refine RefE.next ?_
  refine RefC.ret ?_
  refine RefE.retV rfl ?_
  refine RefV.tmp rfl ?_
  exact RefV.nil rfl

def queue_list_api_Event__first (K : Nat) (a0 : Option Addr) : G (Tapi_Event × Bool) :=
  new [.int .i64 (0 : Int), .int .i64 (0 : Int), .string (ByteArray.mk #[])] 52 fun x1 =>
  new [.int .i64 (0 : Int), .int .i64 (0 : Int), .string (ByteArray.mk #[])] 52 fun x2 =>
  nn a0 fun x3 =>
  ldSl (x3.add 0) fun x4 =>
  if ((x4.n : Int) == (0 : Int)) = true then
    ldG (α := Tapi_Event) x2 fun x5 =>
    st x1 (.agg (Agg.cells x5).toArray) <|
    ldG (α := Tapi_Event) x1 fun r6 =>
    ret (r6, false)
  else
    nn a0 fun x7 =>
    ldSl (x7.add 0) fun x8 =>
    ixA x8 (0 : Int) 3 fun x9 =>
    ldG (α := Tapi_Event) x9 fun x10 =>
    st x1 (.agg (Agg.cells x10).toArray) <|
    ldG (α := Tapi_Event) x1 fun r11 =>
    ret (r11, true)
set_option maxRecDepth 100000 in
theorem queue_list_api_Event__first_ref (K : Nat) (a0 : Option Addr) : Does Tryz.prog 158 [.pointer a0] (queue_list_api_Event__first K a0) (fun r => .tuple #[.agg (Agg.cells r.1).toArray, .bool r.2]) := by
  refine Does.of Tryz.func158 rfl rfl rfl ?_
  unfold queue_list_api_Event__first
  refine RefC.seq ?_
  refine RefC.region ?_
  refine RefL.hv rfl rfl (Hv.newZ Tryz.zeroValue52 rfl fun x1 => ?_)
  refine RefL.pure rfl rfl (RanP.assign rfl) ?_
  refine RefL.nil ?_
  refine RefE.next ?_
  refine RefC.seq ?_
  refine RefC.region ?_
  refine RefL.hv rfl rfl (Hv.newZ Tryz.zeroValue52 rfl fun x2 => ?_)
  refine RefL.nil ?_
  refine RefE.next ?_
  refine RefC.seq ?_
  refine RefC.seq ?_
  refine RefC.region ?_
  refine RefL.pure rfl rfl (RanP.move rfl) ?_
  refine RefL.li rfl rfl (Lt.nn rfl fun x3 => ?_)
  refine RefL.pure rfl rfl (RanP.fieldAddr fa_186_0 rfl) ?_
  refine RefL.li rfl rfl (Lt.ldSl Tryz.isAgg47 rfl fun x4 => ?_)
  refine RefL.pure rfl rfl (RanP.lenSl rfl Tryz.underlying47 rfl) ?_
  refine RefL.pure rfl rfl (RanP.eql rfl rfl) ?_
  refine RefL.nil ?_
  refine RefE.next ?_
  refine RefC.cond rfl ?_ ?_
  · refine RefC.seq ?_
    refine RefC.region ?_
    refine RefL.li rfl rfl (Lt.ldG (τ := Tapi_Event) Tryz.isAgg52 Tryz.sizeOf52 rfl fun x5 => ?_)
    refine RefL.hv rfl rfl (Hv.st Tryz.sizeOf52 rfl rfl rfl ?_)
    refine RefL.pure rfl rfl (RanP.assign rfl) ?_
    refine RefL.nil ?_
    refine RefE.next ?_
    refine RefC.ret ?_
    refine RefE.thenRet ?_
    refine RefE.retV rfl ?_
    refine RefV.cellG Tryz.isAgg52 Tryz.sizeOf52 rfl fun r6 => ?_
    refine RefV.tmp rfl ?_
    exact RefV.nil rfl
  · refine RefC.skip ?_
    refine RefE.next ?_
    refine RefC.seq ?_
    refine RefC.region ?_
    refine RefL.pure rfl rfl (RanP.move rfl) ?_
    refine RefL.li rfl rfl (Lt.nn rfl fun x7 => ?_)
    refine RefL.pure rfl rfl (RanP.fieldAddr fa_186_0 rfl) ?_
    refine RefL.li rfl rfl (Lt.ldSl Tryz.isAgg47 rfl fun x8 => ?_)
    refine RefL.li rfl rfl (Lt.ixA Tryz.underlying47 Tryz.sizeOf52 rfl rfl fun x9 => ?_)
    refine RefL.li rfl rfl (Lt.ldG (τ := Tapi_Event) Tryz.isAgg52 Tryz.sizeOf52 rfl fun x10 => ?_)
    refine RefL.hv rfl rfl (Hv.st Tryz.sizeOf52 rfl rfl rfl ?_)
    refine RefL.pure rfl rfl (RanP.assign rfl) ?_
    refine RefL.nil ?_
    refine RefE.next ?_
    refine RefC.ret ?_
    refine RefE.retV rfl ?_
    refine RefV.cellG Tryz.isAgg52 Tryz.sizeOf52 rfl fun r11 => ?_
    refine RefV.tmp rfl ?_
    exact RefV.nil rfl

def queue_Queue_Peek (K : Nat) (a0 : Option Addr) : G (Tapi_Event × Bool) :=
  new [.int .i64 (0 : Int), .int .i64 (0 : Int), .string (ByteArray.mk #[])] 52 fun x1 =>
  nn a0 fun x2 =>
  bnd (queue_list_api_Event__first K (some (x2.add 2))) fun x3 =>
  st x1 (.agg (Agg.cells x3.1).toArray) <|
  ldG (α := Tapi_Event) x1 fun r4 =>
  ret (r4, x3.2)
set_option maxRecDepth 100000 in
theorem queue_Queue_Peek_ref (K : Nat) (a0 : Option Addr) : Does Tryz.prog 127 [.pointer a0] (queue_Queue_Peek K a0) (fun r => .tuple #[.agg (Agg.cells r.1).toArray, .bool r.2]) := by
  refine Does.of Tryz.func127 rfl rfl rfl ?_
  unfold queue_Queue_Peek
  refine RefC.seq ?_
  refine RefC.region ?_
  refine RefL.hv rfl rfl (Hv.newZ Tryz.zeroValue52 rfl fun x1 => ?_)
  refine RefL.pure rfl rfl (RanP.assign rfl) ?_
  refine RefL.nil ?_
  refine RefE.next ?_
  refine RefC.seq ?_
  refine RefC.region ?_
  refine RefL.pure rfl rfl (RanP.move rfl) ?_
  refine RefL.li rfl rfl (Lt.nn rfl fun x2 => ?_)
  refine RefL.pure rfl rfl (RanP.fieldAddr fa_188_2 rfl) ?_
  refine RefL.hv rfl rfl (Hv.call (queue_list_api_Event__first_ref K (some (x2.add 2))) Tryz.call158 rfl rfl rfl fun x3 => ?_)
  refine RefL.pure rfl rfl (RanP.extract rfl rfl) ?_
  refine RefL.pure rfl rfl (RanP.extract rfl rfl) ?_
  refine RefL.hv rfl rfl (Hv.st Tryz.sizeOf52 rfl rfl rfl ?_)
  refine RefL.pure rfl rfl (RanP.assign rfl) ?_
  refine RefL.nil ?_
  refine RefE.next ?_
  refine RefC.ret ?_
  refine RefE.retV rfl ?_
  refine RefV.cellG Tryz.isAgg52 Tryz.sizeOf52 rfl fun r4 => ?_
  refine RefV.tmp rfl ?_
  exact RefV.nil rfl

def queue_Queue_Take (K : Nat) (a0 : Option Addr) : G (Tapi_Event × Bool) :=
  new [.int .i64 (0 : Int), .int .i64 (0 : Int), .string (ByteArray.mk #[])] 52 fun x1 =>
  bnd (queue_Queue_Peek K a0) fun x2 =>
  new [.int .i64 (0 : Int), .int .i64 (0 : Int), .string (ByteArray.mk #[])] 52 fun x3 =>
  st x3 (.agg (Agg.cells x2.1).toArray) <|
  bnd (
    if x2.2 = true then
      nn a0 fun x12 =>
      ldSl ((x12.add 2).add 0) fun x13 =>
      slS x13 (some (1 : Int)) none none 3 fun x14 =>
      nn a0 fun x15 =>
      st ((x15.add 2).add 0) (.slice x14.a x14.n x14.c) <|
      drw <|
      nn a0 fun x16 =>
      ldI .i64 (x16.add 3) fun x17 =>
      ldS (x3.add 2) fun x18 =>
      nn a0 fun x19 =>
      st (x19.add 3) (.int .i64 (IntKind.wrap .i64 (x17 - (x18.size : Int)))) <|
      ret ()
    else
      ret ()) fun (s20 : Unit) =>
  ldG (α := Tapi_Event) x3 fun x21 =>
  st x1 (.agg (Agg.cells x21).toArray) <|
  ldG (α := Tapi_Event) x1 fun r22 =>
  ret (r22, x2.2)
set_option maxRecDepth 100000 in
theorem queue_Queue_Take_ref (K : Nat) (a0 : Option Addr) : Does Tryz.prog 125 [.pointer a0] (queue_Queue_Take K a0) (fun r => .tuple #[.agg (Agg.cells r.1).toArray, .bool r.2]) := by
  refine Does.of Tryz.func125 rfl rfl rfl ?_
  unfold queue_Queue_Take
  refine RefC.seq ?_
  refine RefC.region ?_
  refine RefL.hv rfl rfl (Hv.newZ Tryz.zeroValue52 rfl fun x1 => ?_)
  refine RefL.pure rfl rfl (RanP.assign rfl) ?_
  refine RefL.nil ?_
  refine RefE.next ?_
  refine RefC.seq ?_
  refine RefC.region ?_
  refine RefL.pure rfl rfl (RanP.move rfl) ?_
  refine RefL.hv rfl rfl (Hv.call (queue_Queue_Peek_ref K a0) Tryz.call127 rfl rfl rfl fun x2 => ?_)
  refine RefL.pure rfl rfl (RanP.move rfl) ?_
  refine RefL.pure rfl rfl (RanP.extract rfl rfl) ?_
  refine RefL.pure rfl rfl (RanP.extract rfl rfl) ?_
  refine RefL.hv rfl rfl (Hv.newZ Tryz.zeroValue52 rfl fun x3 => ?_)
  refine RefL.hv rfl rfl (Hv.st Tryz.sizeOf52 rfl rfl rfl ?_)
  refine RefL.pure rfl rfl (RanP.assign rfl) ?_
  refine RefL.nil ?_
  refine RefE.next ?_
  refine RefC.seq ?_
  refine RefC.seq ?_
  refine RefC.region ?_
  refine RefL.pure rfl rfl (RanP.move rfl) ?_
  refine RefL.nil ?_
  refine RefE.next ?_
  refine RefC.cut (enc := fun (s20 : Unit) => ([(2, .pointer (some x1)), (4, .pointer (some x3)), (5, .bool x2.2)] : Env)) ?_ ?_
  · refine RefC.cond rfl ?_ ?_
    · refine RefC.seq ?_
      refine RefC.region ?_
      refine RefL.pure rfl rfl (RanP.move rfl) ?_
      refine RefL.pure rfl rfl (RanP.move rfl) ?_
      refine RefL.li rfl rfl (Lt.nn rfl fun x12 => ?_)
      refine RefL.pure rfl rfl (RanP.fieldAddr fa_188_2 rfl) ?_
      refine RefL.pure rfl rfl (RanP.fieldAddr fa_186_0 rfl) ?_
      refine RefL.li rfl rfl (Lt.ldSl Tryz.isAgg47 rfl fun x13 => ?_)
      refine RefL.li rfl rfl (Lt.slS (kl := .i64) (kh := .i64) (km := .i64) Tryz.underlying47 Tryz.sizeOf52 rfl rfl rfl rfl (by simp) fun x14 => ?_)
      refine RefL.li rfl rfl (Lt.nn rfl fun x15 => ?_)
      refine RefL.pure rfl rfl (RanP.fieldAddr fa_188_2 rfl) ?_
      refine RefL.pure rfl rfl (RanP.fieldAddr fa_186_0 rfl) ?_
      refine RefL.hv rfl rfl (Hv.st Tryz.sizeOf47 rfl rfl rfl ?_)
      refine RefL.nil ?_
      refine RefE.next ?_
      refine RefC.draw mixed [0, 1, 3, 7, 0, 16, 48, 127, 255, 511, 1023] [.lp 0, .lp 1, .lp 2, .li 3, .lp 4, .li 5, .lp 6, .lp 7, .lp 8, .lp 9, .hv 10] (by kernel_rfl) ?_
      refine RefD.pure (at_ rfl) rfl (RanP.move rfl) ?_
      refine RefD.any (at_ rfl) rfl (Lt.nn rfl fun x16 => ?_)
      refine RefD.pure (at_ rfl) rfl (RanP.fieldAddr fa_188_3 rfl) ?_
      refine RefD.li0 (at_ rfl) rfl (Lt.ldI Tryz.isAgg3 rfl fun x17 => ?_)
      refine RefD.pure (at_ rfl) rfl (RanP.fieldAddr fa_52_2 rfl) ?_
      refine RefD.li0 (at_ rfl) rfl (Lt.ldS Tryz.isAgg9 rfl fun x18 => ?_)
      refine RefD.pure (at_ rfl) rfl (RanP.lenS rfl Tryz.underlying9 rfl) ?_
      refine RefD.pure (at_ rfl) rfl (RanP.sub rfl rfl) ?_
      refine RefD.any (at_ rfl) rfl (Lt.nn rfl fun x19 => ?_)
      refine RefD.pure (at_ rfl) rfl (RanP.fieldAddr fa_188_3 rfl) ?_
      refine RefD.hv (at_ rfl) rfl (Hv.st Tryz.sizeOf3 rfl rfl rfl ?_)
      refine RefD.nil ?_
      exact RefE.fin (s := ()) ⟨rfl, rfl, rfl, trivial⟩
    · refine RefC.skip ?_
      exact RefE.fin (s := ()) ⟨rfl, rfl, rfl, trivial⟩
  · intro s20
    refine RefE.next ?_
    refine RefC.seq ?_
    refine RefC.region ?_
    refine RefL.li rfl rfl (Lt.ldG (τ := Tapi_Event) Tryz.isAgg52 Tryz.sizeOf52 rfl fun x21 => ?_)
    refine RefL.pure rfl rfl (RanP.move rfl) ?_
    refine RefL.hv rfl rfl (Hv.st Tryz.sizeOf52 rfl rfl rfl ?_)
    refine RefL.pure rfl rfl (RanP.assign rfl) ?_
    refine RefL.nil ?_
    refine RefE.next ?_
    refine RefC.ret ?_
    refine RefE.retV rfl ?_
    refine RefV.cellG Tryz.isAgg52 Tryz.sizeOf52 rfl fun r22 => ?_
    refine RefV.tmp rfl ?_
    exact RefV.nil rfl

def leg_Leg_Free (K : Nat) (a0 : Option Addr) : G (Bool) :=
  nn a0 fun x1 =>
  ldB (x1.add 20) fun x2 =>
  bnd (
    if (!x2) = true then
      nn a0 fun x4 =>
      ldB (x4.add 21) fun x5 =>
      ret (!x5)
    else
      ret false) fun (x3 : Bool) =>
  bnd (
    if x3 = true then
      nn a0 fun x7 =>
      ldI .i64 (x7.add 22) fun x8 =>
      ret (x8 == (0 : Int))
    else
      ret false) fun (x6 : Bool) =>
  bnd (
    if x6 = true then
      nn a0 fun x10 =>
      ldSl (x10.add 17) fun x11 =>
      ret ((x11.n : Int) == (0 : Int))
    else
      ret false) fun (x9 : Bool) =>
  ret x9
set_option maxRecDepth 100000 in
theorem leg_Leg_Free_ref (K : Nat) (a0 : Option Addr) : Does Tryz.prog 53 [.pointer a0] (leg_Leg_Free K a0) (fun r => .bool r) := by
  refine Does.of Tryz.func53 rfl rfl rfl ?_
  unfold leg_Leg_Free
  refine RefC.seq ?_
  refine RefC.region ?_
  refine RefL.pure rfl rfl (RanP.assign rfl) ?_
  refine RefL.nil ?_
  refine RefE.next ?_
  refine RefC.seq ?_
  refine RefC.region ?_
  refine RefL.pure rfl rfl (RanP.move rfl) ?_
  refine RefL.li rfl rfl (Lt.nn rfl fun x1 => ?_)
  refine RefL.pure rfl rfl (RanP.fieldAddr fa_109_8 rfl) ?_
  refine RefL.li rfl rfl (Lt.ldB Tryz.isAgg4 rfl fun x2 => ?_)
  refine RefL.pure rfl rfl (RanP.not rfl) ?_
  refine RefL.pure rfl rfl (RanP.move rfl) ?_
  refine RefL.cut (enc := fun (x3 : Bool) => ([(14, .bool x3), (0, .pointer a0)] : Env)) 6 ?_ ?_
  · refine RefL.ite (s := 8) rfl ?_ ?_
    · refine RefL.pure rfl rfl (RanP.move rfl) ?_
      refine RefL.li rfl rfl (Lt.nn rfl fun x4 => ?_)
      refine RefL.pure rfl rfl (RanP.fieldAddr fa_109_9 rfl) ?_
      refine RefL.li rfl rfl (Lt.ldB Tryz.isAgg4 rfl fun x5 => ?_)
      refine RefL.pure rfl rfl (RanP.not rfl) ?_
      refine RefL.pure rfl rfl (RanP.pickT rfl rfl) ?_
      refine RefL.nil ?_
      exact RefE.fin (s := (!x5)) ⟨rfl, rfl, trivial⟩
    · refine RefL.skip rfl rfl ?_
      refine RefL.skip rfl rfl ?_
      refine RefL.skip rfl rfl ?_
      refine RefL.skip rfl rfl ?_
      refine RefL.skip rfl rfl ?_
      refine RefL.pure rfl rfl (RanP.pickF rfl rfl) ?_
      refine RefL.nil ?_
      exact RefE.fin (s := false) ⟨rfl, rfl, trivial⟩
  · intro x3
    refine RefL.pure rfl rfl (RanP.move rfl) ?_
    refine RefL.cut (enc := fun (x6 : Bool) => ([(21, .bool x6), (0, .pointer a0)] : Env)) 6 ?_ ?_
    · refine RefL.ite (s := 15) rfl ?_ ?_
      · refine RefL.pure rfl rfl (RanP.move rfl) ?_
        refine RefL.li rfl rfl (Lt.nn rfl fun x7 => ?_)
        refine RefL.pure rfl rfl (RanP.fieldAddr fa_109_10 rfl) ?_
        refine RefL.li rfl rfl (Lt.ldI Tryz.isAgg31 rfl fun x8 => ?_)
        refine RefL.pure rfl rfl (RanP.eql rfl rfl) ?_
        refine RefL.pure rfl rfl (RanP.pickT rfl rfl) ?_
        refine RefL.nil ?_
        exact RefE.fin (s := (x8 == (0 : Int))) ⟨rfl, rfl, trivial⟩
      · refine RefL.skip rfl rfl ?_
        refine RefL.skip rfl rfl ?_
        refine RefL.skip rfl rfl ?_
        refine RefL.skip rfl rfl ?_
        refine RefL.skip rfl rfl ?_
        refine RefL.pure rfl rfl (RanP.pickF rfl rfl) ?_
        refine RefL.nil ?_
        exact RefE.fin (s := false) ⟨rfl, rfl, trivial⟩
    · intro x6
      refine RefL.pure rfl rfl (RanP.move rfl) ?_
      refine RefL.cut (enc := fun (x9 : Bool) => ([(29, .bool x9)] : Env)) 7 ?_ ?_
      · refine RefL.ite (s := 22) rfl ?_ ?_
        · refine RefL.pure rfl rfl (RanP.move rfl) ?_
          refine RefL.li rfl rfl (Lt.nn rfl fun x10 => ?_)
          refine RefL.pure rfl rfl (RanP.fieldAddr fa_109_5 rfl) ?_
          refine RefL.li rfl rfl (Lt.ldSl Tryz.isAgg34 rfl fun x11 => ?_)
          refine RefL.pure rfl rfl (RanP.lenSl rfl Tryz.underlying34 rfl) ?_
          refine RefL.pure rfl rfl (RanP.eql rfl rfl) ?_
          refine RefL.pure rfl rfl (RanP.pickT rfl rfl) ?_
          refine RefL.nil ?_
          exact RefE.fin (s := ((x11.n : Int) == (0 : Int))) ⟨rfl, trivial⟩
        · refine RefL.skip rfl rfl ?_
          refine RefL.skip rfl rfl ?_
          refine RefL.skip rfl rfl ?_
          refine RefL.skip rfl rfl ?_
          refine RefL.skip rfl rfl ?_
          refine RefL.skip rfl rfl ?_
          refine RefL.pure rfl rfl (RanP.pickF rfl rfl) ?_
          refine RefL.nil ?_
          exact RefE.fin (s := false) ⟨rfl, trivial⟩
      · intro x9
        refine RefL.pure rfl rfl (RanP.assign rfl) ?_
        refine RefL.nil ?_
        refine RefE.next ?_
        refine RefC.ret ?_
        refine RefE.retV rfl ?_
        refine RefV.tmp rfl ?_
        exact RefV.nil rfl

def cut_Count (K : Nat) (a0 : Int) (a1 : Int) : G (Int) :=
  bnd (
    if (decide (a0 < (0 : Int))) = true then
      ret true
    else
      ret (decide ((1048576 : Int) < a0))) fun (x1 : Bool) =>
  bnd (
    if x1 = true then
      ret true
    else
      ret (decide (a1 < (1 : Int)))) fun (x2 : Bool) =>
  bnd (
    if x2 = true then
      ret true
    else
      ret (decide ((65536 : Int) < a1))) fun (x3 : Bool) =>
  if x3 = true then
    ret (0 : Int)
  else
    chk (a1 ≠ 0) <|
    lt (if (IntKind.wrap .i64 (Int.tdiv (IntKind.wrap .i64 ((IntKind.wrap .i64 (a0 + a1)) - (1 : Int))) a1)) < (1 : Int) then (1 : Int) else (IntKind.wrap .i64 (Int.tdiv (IntKind.wrap .i64 ((IntKind.wrap .i64 (a0 + a1)) - (1 : Int))) a1))) fun x5 =>
    ret x5
set_option maxRecDepth 100000 in
theorem cut_Count_ref (K : Nat) (a0 : Int) (a1 : Int) : Does Tryz.prog 115 [.int .i64 a0, .int .i64 a1] (cut_Count K a0 a1) (fun r => .int .i64 r) := by
  refine Does.of Tryz.func115 rfl rfl rfl ?_
  unfold cut_Count
  refine RefC.seq ?_
  refine RefC.region ?_
  refine RefL.pure rfl rfl (RanP.assign rfl) ?_
  refine RefL.nil ?_
  refine RefE.next ?_
  refine RefC.seq ?_
  refine RefC.seq ?_
  refine RefC.region ?_
  refine RefL.pure rfl rfl (RanP.move rfl) ?_
  refine RefL.pure rfl rfl (RanP.lss rfl rfl) ?_
  refine RefL.pure rfl rfl (RanP.move rfl) ?_
  refine RefL.cut (enc := fun (x1 : Bool) => ([(10, .bool x1), (0, .int .i64 a0), (1, .int .i64 a1)] : Env)) 3 ?_ ?_
  · refine RefL.ite (s := 7) rfl ?_ ?_
    · refine RefL.skip rfl rfl ?_
      refine RefL.skip rfl rfl ?_
      refine RefL.pure rfl rfl (RanP.pickT rfl rfl) ?_
      refine RefL.nil ?_
      exact RefE.fin (s := true) ⟨rfl, rfl, rfl, trivial⟩
    · refine RefL.pure rfl rfl (RanP.move rfl) ?_
      refine RefL.pure rfl rfl (RanP.gtr rfl rfl) ?_
      refine RefL.pure rfl rfl (RanP.pickF rfl rfl) ?_
      refine RefL.nil ?_
      exact RefE.fin (s := (decide ((1048576 : Int) < a0))) ⟨rfl, rfl, rfl, trivial⟩
  · intro x1
    refine RefL.pure rfl rfl (RanP.move rfl) ?_
    refine RefL.cut (enc := fun (x2 : Bool) => ([(14, .bool x2), (0, .int .i64 a0), (1, .int .i64 a1)] : Env)) 3 ?_ ?_
    · refine RefL.ite (s := 11) rfl ?_ ?_
      · refine RefL.skip rfl rfl ?_
        refine RefL.skip rfl rfl ?_
        refine RefL.pure rfl rfl (RanP.pickT rfl rfl) ?_
        refine RefL.nil ?_
        exact RefE.fin (s := true) ⟨rfl, rfl, rfl, trivial⟩
      · refine RefL.pure rfl rfl (RanP.move rfl) ?_
        refine RefL.pure rfl rfl (RanP.lss rfl rfl) ?_
        refine RefL.pure rfl rfl (RanP.pickF rfl rfl) ?_
        refine RefL.nil ?_
        exact RefE.fin (s := (decide (a1 < (1 : Int)))) ⟨rfl, rfl, rfl, trivial⟩
    · intro x2
      refine RefL.pure rfl rfl (RanP.move rfl) ?_
      refine RefL.cut (enc := fun (x3 : Bool) => ([(18, .bool x3), (0, .int .i64 a0), (1, .int .i64 a1)] : Env)) 3 ?_ ?_
      · refine RefL.ite (s := 15) rfl ?_ ?_
        · refine RefL.skip rfl rfl ?_
          refine RefL.skip rfl rfl ?_
          refine RefL.pure rfl rfl (RanP.pickT rfl rfl) ?_
          refine RefL.nil ?_
          exact RefE.fin (s := true) ⟨rfl, rfl, rfl, trivial⟩
        · refine RefL.pure rfl rfl (RanP.move rfl) ?_
          refine RefL.pure rfl rfl (RanP.gtr rfl rfl) ?_
          refine RefL.pure rfl rfl (RanP.pickF rfl rfl) ?_
          refine RefL.nil ?_
          exact RefE.fin (s := (decide ((65536 : Int) < a1))) ⟨rfl, rfl, rfl, trivial⟩
      · intro x3
        refine RefL.nil ?_
        refine RefE.next ?_
        refine RefC.cond rfl ?_ ?_
        · refine RefC.seq ?_
          refine RefC.region ?_
          refine RefL.pure rfl rfl (RanP.assign rfl) ?_
          refine RefL.nil ?_
          refine RefE.next ?_
          refine RefC.ret ?_
          refine RefE.thenRet ?_
          refine RefE.retV rfl ?_
          refine RefV.tmp rfl ?_
          exact RefV.nil rfl
        · refine RefC.skip ?_
          refine RefE.next ?_
          refine RefC.seq ?_
          refine RefC.region ?_
          refine RefL.pure rfl rfl (RanP.move rfl) ?_
          refine RefL.pure rfl rfl (RanP.move rfl) ?_
          refine RefL.pure rfl rfl (RanP.add rfl rfl) ?_
          refine RefL.pure rfl rfl (RanP.sub rfl rfl) ?_
          refine RefL.pure rfl rfl (RanP.move rfl) ?_
          refine RefL.chk fun h4 => ?_
          refine RefL.pure rfl rfl (RanP.quo h4 rfl rfl) ?_
          refine RefL.pure rfl rfl (RanP.max2 rfl) ?_
          refine RefL.pure rfl rfl (RanP.assign rfl) ?_
          refine RefL.lt 4 (fun y => .int .i64 y) rfl fun x5 => ?_
          refine RefL.nil ?_
          refine RefE.next ?_
          refine RefC.ret ?_
          refine RefE.retV rfl ?_
          refine RefV.tmp rfl ?_
          exact RefV.nil rfl

def cut_Frames_l0 (K : Nat) (x1 : Int) (a1 : ByteArray) (a2 : Int) (again : (Int × Sl × Int) → G (Sl)) (s17 : Int × Sl × Int) : G (Sl) :=
  if (decide (s17.2.2 < x1)) = true then
    slStr a1 (some (IntKind.wrap .i64 (s17.2.2 * a2))) (some (if (a1.size : Int) < (IntKind.wrap .i64 ((IntKind.wrap .i64 (s17.2.2 + (1 : Int))) * a2)) then (a1.size : Int) else (IntKind.wrap .i64 ((IntKind.wrap .i64 (s17.2.2 + (1 : Int))) * a2)))) fun x18 =>
    new (Agg.cells (Tapi_Frame.mk (s17.2.2 == (IntKind.wrap .i64 (x1 - (1 : Int)))) s17.1 false (0 : Int) (0 : Int) (0 : Int) (0 : Int) x18)) 61 fun x19 =>
    appS 61 8 40 [.bool false, .int .i64 (0 : Int), .bool false, .int .u8 (0 : Int), .int .u8 (0 : Int), .int .u8 (0 : Int), .int .u8 (0 : Int), .string (ByteArray.mk #[])] s17.2.1 (Sl.mk (some x19) 1 1) fun x20 =>
    again ((0 : Int), x20, (IntKind.wrap .i64 (s17.2.2 + (1 : Int))))
  else
    ret (s17.2.1)
def cut_Frames (K : Nat) (a0 : Int) (a1 : ByteArray) (a2 : Int) : G (Sl × Int) :=
  bnd (cut_Count K (a1.size : Int) a2) fun x1 =>
  bnd (
    if (a0 != (1 : Int)) = true then
      ret (a0 != (2 : Int))
    else
      ret false) fun (x2 : Bool) =>
  bnd (
    if x2 = true then
      ret true
    else
      ret (x1 == (0 : Int))) fun (x3 : Bool) =>
  if x3 = true then
    ret (Sl.nil, (130 : Int))
  else
    mk 61 8 40 [.bool false, .int .i64 (0 : Int), .bool false, .int .u8 (0 : Int), .int .u8 (0 : Int), .int .u8 (0 : Int), .int .u8 (0 : Int), .string (ByteArray.mk #[])] (0 : Int) x1 fun x4 =>
    bnd (
      loopG (cut_Frames_l0 K x1 a1 a2) K (a0, x4, (0 : Int))) fun (s21 : Sl) =>
    ret (s21, (0 : Int))
set_option maxRecDepth 100000 in
theorem cut_Frames_ref (K : Nat) (a0 : Int) (a1 : ByteArray) (a2 : Int) : Does Tryz.prog 74 [.int .i64 a0, .string a1, .int .i64 a2] (cut_Frames K a0 a1 a2) (fun r => .tuple #[.slice r.1.a r.1.n r.1.c, .int .i64 r.2]) := by
  refine Does.of Tryz.func74 rfl rfl rfl ?_
  unfold cut_Frames
  refine RefC.seq ?_
  refine RefC.region ?_
  refine RefL.pure rfl rfl (RanP.assign rfl) ?_
  refine RefL.pure rfl rfl (RanP.assign rfl) ?_
  refine RefL.nil ?_
  refine RefE.next ?_
  refine RefC.seq ?_
  refine RefC.region ?_
  refine RefL.pure rfl rfl (RanP.move rfl) ?_
  refine RefL.pure rfl rfl (RanP.lenS rfl Tryz.underlying9 rfl) ?_
  refine RefL.pure rfl rfl (RanP.move rfl) ?_
  refine RefL.hv rfl rfl (Hv.call (cut_Count_ref K (a1.size : Int) a2) Tryz.call115 rfl rfl rfl fun x1 => ?_)
  refine RefL.pure rfl rfl (RanP.assign rfl) ?_
  refine RefL.nil ?_
  refine RefE.next ?_
  refine RefC.seq ?_
  refine RefC.seq ?_
  refine RefC.region ?_
  refine RefL.pure rfl rfl (RanP.move rfl) ?_
  refine RefL.pure rfl rfl (RanP.neq rfl rfl) ?_
  refine RefL.pure rfl rfl (RanP.move rfl) ?_
  refine RefL.cut (enc := fun (x2 : Bool) => ([(20, .bool x2), (0, .int .i64 a0), (1, .string a1), (2, .int .i64 a2), (8, .int .i64 x1)] : Env)) 3 ?_ ?_
  · refine RefL.ite (s := 17) rfl ?_ ?_
    · refine RefL.pure rfl rfl (RanP.move rfl) ?_
      refine RefL.pure rfl rfl (RanP.neq rfl rfl) ?_
      refine RefL.pure rfl rfl (RanP.pickT rfl rfl) ?_
      refine RefL.nil ?_
      exact RefE.fin (s := (a0 != (2 : Int))) ⟨rfl, rfl, rfl, rfl, rfl, trivial⟩
    · refine RefL.skip rfl rfl ?_
      refine RefL.skip rfl rfl ?_
      refine RefL.pure rfl rfl (RanP.pickF rfl rfl) ?_
      refine RefL.nil ?_
      exact RefE.fin (s := false) ⟨rfl, rfl, rfl, rfl, rfl, trivial⟩
  · intro x2
    refine RefL.pure rfl rfl (RanP.move rfl) ?_
    refine RefL.cut (enc := fun (x3 : Bool) => ([(24, .bool x3), (0, .int .i64 a0), (1, .string a1), (2, .int .i64 a2), (8, .int .i64 x1)] : Env)) 3 ?_ ?_
    · refine RefL.ite (s := 21) rfl ?_ ?_
      · refine RefL.skip rfl rfl ?_
        refine RefL.skip rfl rfl ?_
        refine RefL.pure rfl rfl (RanP.pickT rfl rfl) ?_
        refine RefL.nil ?_
        exact RefE.fin (s := true) ⟨rfl, rfl, rfl, rfl, rfl, trivial⟩
      · refine RefL.pure rfl rfl (RanP.move rfl) ?_
        refine RefL.pure rfl rfl (RanP.eql rfl rfl) ?_
        refine RefL.pure rfl rfl (RanP.pickF rfl rfl) ?_
        refine RefL.nil ?_
        exact RefE.fin (s := (x1 == (0 : Int))) ⟨rfl, rfl, rfl, rfl, rfl, trivial⟩
    · intro x3
      refine RefL.nil ?_
      refine RefE.next ?_
      refine RefC.cond rfl ?_ ?_
      · refine RefC.seq ?_
        refine RefC.region ?_
        refine RefL.pure rfl rfl (RanP.assign rfl) ?_
        refine RefL.pure rfl rfl (RanP.assign rfl) ?_
        refine RefL.nil ?_
        refine RefE.next ?_
        refine RefC.ret ?_
        refine RefE.thenRet ?_
        refine RefE.retV rfl ?_
        refine RefV.tmp rfl ?_
        refine RefV.tmp rfl ?_
        exact RefV.nil rfl
      · refine RefC.skip ?_
        refine RefE.next ?_
        refine RefC.seq ?_
        refine RefC.region ?_
        refine RefL.pure rfl rfl (RanP.move rfl) ?_
        refine RefL.hv rfl rfl (Hv.mk (i := Tryz.t61) Tryz.underlying34 rfl rfl rfl rfl rfl rfl fun x4 => ?_)
        refine RefL.pure rfl rfl (RanP.assign rfl) ?_
        refine RefL.nil ?_
        refine RefE.next ?_
        refine RefC.seq ?_
        refine RefC.seq ?_
        refine RefC.region ?_
        refine RefL.pure rfl rfl (RanP.move rfl) ?_
        refine RefL.pure rfl rfl (RanP.move rfl) ?_
        refine RefL.nil ?_
        refine RefE.next ?_
        refine RefC.cut (enc := fun (s21 : Sl) => ([(9, .slice s21.a s21.n s21.c)] : Env)) ?_ ?_
        · refine RefC.block ?_
          refine RefC.loopW (enc := fun (s17 : Int × Sl × Int) => ([(0, .int .i64 s17.1), (9, .slice s17.2.1.a s17.2.1.n s17.2.1.c), (28, .int .i64 s17.2.2), (1, .string a1), (2, .int .i64 a2), (8, .int .i64 x1), (27, .int .i64 x1)] : Env)) ⟨rfl, rfl, rfl, rfl, rfl, rfl, rfl, trivial⟩ ?_ _
          intro again k ih s17
          unfold cut_Frames_l0
          refine RefC.seq ?_
          refine RefC.region ?_
          refine RefL.pure rfl rfl (RanP.lss rfl rfl) ?_
          refine RefL.nil ?_
          refine RefE.next ?_
          refine RefC.seq ?_
          refine RefC.cond rfl ?_ ?_
          · refine RefC.skip ?_
            refine RefE.next ?_
            refine RefC.seq ?_
            refine RefC.block ?_
            refine RefC.seq ?_
            refine RefC.region ?_
            refine RefL.pure rfl rfl (RanP.move rfl) ?_
            refine RefL.pure rfl rfl (RanP.assign rfl) ?_
            refine RefL.nil ?_
            refine RefE.next ?_
            refine RefC.seq ?_
            refine RefC.region ?_
            refine RefL.pure rfl rfl (RanP.move rfl) ?_
            refine RefL.pure rfl rfl (RanP.move rfl) ?_
            refine RefL.pure rfl rfl (RanP.move rfl) ?_
            refine RefL.pure rfl rfl (RanP.move rfl) ?_
            refine RefL.pure rfl rfl (RanP.sub rfl rfl) ?_
            refine RefL.pure rfl rfl (RanP.eql rfl rfl) ?_
            refine RefL.pure rfl rfl (RanP.move rfl) ?_
            refine RefL.pure rfl rfl (RanP.move rfl) ?_
            refine RefL.pure rfl rfl (RanP.move rfl) ?_
            refine RefL.pure rfl rfl (RanP.mul rfl rfl) ?_
            refine RefL.pure rfl rfl (RanP.move rfl) ?_
            refine RefL.pure rfl rfl (RanP.add rfl rfl) ?_
            refine RefL.pure rfl rfl (RanP.move rfl) ?_
            refine RefL.pure rfl rfl (RanP.mul rfl rfl) ?_
            refine RefL.pure rfl rfl (RanP.move rfl) ?_
            refine RefL.pure rfl rfl (RanP.lenS rfl Tryz.underlying9 rfl) ?_
            refine RefL.pure rfl rfl (RanP.min2 rfl) ?_
            refine RefL.li rfl rfl (Lt.slStr (kl := .i64) (kh := .i64) Tryz.underlying9 rfl rfl rfl fun x18 => ?_)
            refine RefL.pure rfl rfl (RanP.build rfl (v := .agg (Agg.cells (Tapi_Frame.mk (s17.2.2 == (IntKind.wrap .i64 (x1 - (1 : Int)))) s17.1 false (0 : Int) (0 : Int) (0 : Int) (0 : Int) x18)).toArray) (fun _ => by kernel_rfl)) ?_
            refine RefL.hv rfl rfl (Hv.buildSlice rfl (cs := (Agg.cells (Tapi_Frame.mk (s17.2.2 == (IntKind.wrap .i64 (x1 - (1 : Int)))) s17.1 false (0 : Int) (0 : Int) (0 : Int) (0 : Int) x18))) (e := 61) (fun _ => by kernel_rfl) fun x19 => ?_)
            refine RefL.hv rfl rfl (Hv.appS (i := Tryz.t61) rfl Tryz.underlying34 Tryz.underlying34 rfl rfl rfl rfl fun x20 => ?_)
            refine RefL.pure rfl rfl (RanP.assign rfl) ?_
            refine RefL.nil ?_
            refine RefE.next ?_
            refine RefC.region ?_
            refine RefL.pure rfl rfl (RanP.assign rfl) ?_
            refine RefL.nil ?_
            refine RefE.blockNormal ?_
            refine RefE.next ?_
            refine RefC.region ?_
            refine RefL.pure rfl rfl (RanP.add rfl rfl) ?_
            refine RefL.pure rfl rfl (RanP.move rfl) ?_
            refine RefL.nil ?_
            exact RefE.again (ih ((0 : Int), x20, (IntKind.wrap .i64 (s17.2.2 + (1 : Int))))) ⟨rfl, rfl, rfl, rfl, rfl, rfl, rfl, trivial⟩
          · refine RefC.exit ?_
            refine RefE.thenExit ?_
            refine RefE.roundExit ?_
            refine RefE.blockExit ?_
            exact RefE.fin (s := (s17.2.1)) ⟨rfl, trivial⟩
        · intro s21
          refine RefE.next ?_
          refine RefC.seq ?_
          refine RefC.region ?_
          refine RefL.pure rfl rfl (RanP.move rfl) ?_
          refine RefL.pure rfl rfl (RanP.assign rfl) ?_
          refine RefL.pure rfl rfl (RanP.assign rfl) ?_
          refine RefL.nil ?_
          refine RefE.next ?_
          refine RefC.ret ?_
          refine RefE.retV rfl ?_
          refine RefV.tmp rfl ?_
          refine RefV.tmp rfl ?_
          exact RefV.nil rfl

end Go.Proofs.YtjdnjlnfcbaokaaGreat

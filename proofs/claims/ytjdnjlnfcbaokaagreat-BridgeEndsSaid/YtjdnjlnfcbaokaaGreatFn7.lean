/-
  Go functions as programs over the world, and that the model's code does what they say. Printed by gen.py (own work).
-/
import Derived.Test.YtjdnjlnfcbaokaaGreatFn6
set_option linter.unusedVariables false
set_option linter.unusedSimpArgs false
namespace Go.Proofs.YtjdnjlnfcbaokaaGreat
open Go Go.Lg

def leg_Leg_Send (K : Nat) (a0 : Option Addr) (a1 : Tapi_Event) : G (Bool) :=
  new (Agg.cells a1) 52 fun x1 =>
  bnd (
    drw <|
    bnd (leg_Leg_Free K a0) fun x11 =>
    if (!x11) = true then
      ret (true)
    else
      ldI .i64 (x1.add 0) fun x12 =>
      if (x12 != (1 : Int)) = true then
        ldI .i64 (x1.add 0) fun x13 =>
        if (x13 != (2 : Int)) = true then
          ret (true)
        else
          ldS (x1.add 2) fun x14 =>
          nn a0 fun x15 =>
          ldI .i64 ((x15.add 0).add 3) fun x16 =>
          ret ((decide (x16 < (x14.size : Int))))
      else
        ldS (x1.add 2) fun x17 =>
        nn a0 fun x18 =>
        ldI .i64 ((x18.add 0).add 3) fun x19 =>
        ret ((decide (x19 < (x17.size : Int))))) fun (s20 : Bool) =>
  if s20 = true then
    ret false
  else
    drw <|
    ldI .i64 (x1.add 0) fun x21 =>
    ldS (x1.add 2) fun x22 =>
    nn a0 fun x23 =>
    ldI .i64 ((x23.add 0).add 4) fun x24 =>
    bnd (cut_Frames K x21 x22 x24) fun x25 =>
    nn a0 fun x26 =>
    st (x26.add 17) (.slice x25.1.a x25.1.n x25.1.c) <|
    bnd (leg_Leg_move K a0) fun x27 =>
    ret true
set_option maxRecDepth 100000 in
theorem leg_Leg_Send_ref (K : Nat) (a0 : Option Addr) (a1 : Tapi_Event) : Does Tryz.prog 25 [.pointer a0, .agg (Agg.cells a1).toArray] (leg_Leg_Send K a0 a1) (fun r => .bool r) := by
  refine Does.of Tryz.func25 rfl rfl rfl ?_
  unfold leg_Leg_Send
  refine RefC.seq ?_
  refine RefC.region ?_
  refine RefL.hv rfl rfl (Hv.box rfl rfl fun x1 => ?_)
  refine RefL.pure rfl rfl (RanP.assign rfl) ?_
  refine RefL.nil ?_
  refine RefE.next ?_
  refine RefC.seq ?_
  refine RefC.seq ?_
  refine RefC.cut (enc := fun (s20 : Bool) => ([(28, .bool s20), (0, .pointer a0), (3, .pointer (some x1))] : Env)) ?_ ?_
  · refine RefC.draw mixed [0, 1, 3, 7, 15, 31, 63, 127, 255, 511, 1023, 2047, 4095, 8191, 16383, 32767, 65535, 16383, 147455, 409599, 933887, 1982463, 4194303, 8388607] [.lp 0, .hv 1, .lp 2, .lp 3, .lp 4, .li 5, .lp 6, .lp 7, .lp 8, .li 9, .lp 10, .lp 11, .lp 12, .lp 13, .lp 14, .li 15, .lp 16, .lp 17, .lp 18, .lp 19, .lp 20, .li 21, .lp 22, .lp 23] (by kernel_rfl) ?_
    refine RefD.pure (at_ rfl) rfl (RanP.move rfl) ?_
    refine RefD.hv (at_ rfl) rfl (Hv.call (leg_Leg_Free_ref K a0) Tryz.call53 rfl rfl rfl fun x11 => ?_)
    refine RefD.pure (at_ rfl) rfl (RanP.not rfl) ?_
    refine RefD.pure (at_ rfl) rfl (RanP.move rfl) ?_
    refine RefD.ite (s := 8) rfl ?_ ?_
    · refine RefD.skipP (at_ rfl) rfl ?_
      refine RefD.skipI (at_ rfl) rfl ?_
      refine RefD.skipP (at_ rfl) rfl ?_
      refine RefD.skipP (at_ rfl) rfl ?_
      refine RefD.skipP (at_ rfl) rfl ?_
      refine RefD.skipI (at_ rfl) rfl ?_
      refine RefD.skipP (at_ rfl) rfl ?_
      refine RefD.skipP (at_ rfl) rfl ?_
      refine RefD.pure (at_ rfl) rfl (RanP.pickT rfl rfl) ?_
      refine RefD.pure (at_ rfl) rfl (RanP.move rfl) ?_
      refine RefD.skipP (at_ rfl) rfl ?_
      refine RefD.skipI (at_ rfl) rfl ?_
      refine RefD.skipP (at_ rfl) rfl ?_
      refine RefD.skipP (at_ rfl) rfl ?_
      refine RefD.skipP (at_ rfl) rfl ?_
      refine RefD.skipP (at_ rfl) rfl ?_
      refine RefD.skipP (at_ rfl) rfl ?_
      refine RefD.skipI (at_ rfl) rfl ?_
      refine RefD.skipP (at_ rfl) rfl ?_
      refine RefD.pure (at_ rfl) rfl (RanP.pickT rfl rfl) ?_
      refine RefD.nil ?_
      exact RefE.fin (s := (true)) ⟨rfl, rfl, rfl, trivial⟩
    · refine RefD.pure (at_ rfl) rfl (RanP.fieldAddr fa_52_0 rfl) ?_
      refine RefD.li0 (at_ rfl) rfl (Lt.ldI Tryz.isAgg3 rfl fun x12 => ?_)
      refine RefD.pure (at_ rfl) rfl (RanP.neq rfl rfl) ?_
      refine RefD.pure (at_ rfl) rfl (RanP.move rfl) ?_
      refine RefD.ite (s := 12) rfl ?_ ?_
      · refine RefD.pure (at_ rfl) rfl (RanP.fieldAddr fa_52_0 rfl) ?_
        refine RefD.li0 (at_ rfl) rfl (Lt.ldI Tryz.isAgg3 rfl fun x13 => ?_)
        refine RefD.pure (at_ rfl) rfl (RanP.neq rfl rfl) ?_
        refine RefD.pure (at_ rfl) rfl (RanP.pickT rfl rfl) ?_
        refine RefD.pure (at_ rfl) rfl (RanP.pickF rfl rfl) ?_
        refine RefD.pure (at_ rfl) rfl (RanP.move rfl) ?_
        refine RefD.ite (s := 18) rfl ?_ ?_
        · refine RefD.skipP (at_ rfl) rfl ?_
          refine RefD.skipI (at_ rfl) rfl ?_
          refine RefD.skipP (at_ rfl) rfl ?_
          refine RefD.skipP (at_ rfl) rfl ?_
          refine RefD.skipP (at_ rfl) rfl ?_
          refine RefD.skipP (at_ rfl) rfl ?_
          refine RefD.skipP (at_ rfl) rfl ?_
          refine RefD.skipI (at_ rfl) rfl ?_
          refine RefD.skipP (at_ rfl) rfl ?_
          refine RefD.pure (at_ rfl) rfl (RanP.pickT rfl rfl) ?_
          refine RefD.nil ?_
          exact RefE.fin (s := (true)) ⟨rfl, rfl, rfl, trivial⟩
        · refine RefD.pure (at_ rfl) rfl (RanP.fieldAddr fa_52_2 rfl) ?_
          refine RefD.li0 (at_ rfl) rfl (Lt.ldS Tryz.isAgg9 rfl fun x14 => ?_)
          refine RefD.pure (at_ rfl) rfl (RanP.lenS rfl Tryz.underlying9 rfl) ?_
          refine RefD.pure (at_ rfl) rfl (RanP.move rfl) ?_
          refine RefD.any (at_ rfl) rfl (Lt.nn rfl fun x15 => ?_)
          refine RefD.pure (at_ rfl) rfl (RanP.fieldAddr fa_109_0 rfl) ?_
          refine RefD.pure (at_ rfl) rfl (RanP.fieldAddr fa_25_3 rfl) ?_
          refine RefD.li0 (at_ rfl) rfl (Lt.ldI Tryz.isAgg3 rfl fun x16 => ?_)
          refine RefD.pure (at_ rfl) rfl (RanP.gtr rfl rfl) ?_
          refine RefD.pure (at_ rfl) rfl (RanP.pickF rfl rfl) ?_
          refine RefD.nil ?_
          exact RefE.fin (s := ((decide (x16 < (x14.size : Int))))) ⟨rfl, rfl, rfl, trivial⟩
      · refine RefD.skipP (at_ rfl) rfl ?_
        refine RefD.skipI (at_ rfl) rfl ?_
        refine RefD.skipP (at_ rfl) rfl ?_
        refine RefD.pure (at_ rfl) rfl (RanP.pickF rfl rfl) ?_
        refine RefD.pure (at_ rfl) rfl (RanP.pickF rfl rfl) ?_
        refine RefD.pure (at_ rfl) rfl (RanP.move rfl) ?_
        refine RefD.pure (at_ rfl) rfl (RanP.fieldAddr fa_52_2 rfl) ?_
        refine RefD.li0 (at_ rfl) rfl (Lt.ldS Tryz.isAgg9 rfl fun x17 => ?_)
        refine RefD.pure (at_ rfl) rfl (RanP.lenS rfl Tryz.underlying9 rfl) ?_
        refine RefD.pure (at_ rfl) rfl (RanP.move rfl) ?_
        refine RefD.any (at_ rfl) rfl (Lt.nn rfl fun x18 => ?_)
        refine RefD.pure (at_ rfl) rfl (RanP.fieldAddr fa_109_0 rfl) ?_
        refine RefD.pure (at_ rfl) rfl (RanP.fieldAddr fa_25_3 rfl) ?_
        refine RefD.li0 (at_ rfl) rfl (Lt.ldI Tryz.isAgg3 rfl fun x19 => ?_)
        refine RefD.pure (at_ rfl) rfl (RanP.gtr rfl rfl) ?_
        refine RefD.pure (at_ rfl) rfl (RanP.pickF rfl rfl) ?_
        refine RefD.nil ?_
        exact RefE.fin (s := ((decide (x19 < (x17.size : Int))))) ⟨rfl, rfl, rfl, trivial⟩
  · intro s20
    refine RefE.next ?_
    refine RefC.cond rfl ?_ ?_
    · refine RefC.seq ?_
      refine RefC.region ?_
      refine RefL.pure rfl rfl (RanP.assign rfl) ?_
      refine RefL.nil ?_
      refine RefE.next ?_
      refine RefC.ret ?_
      refine RefE.thenRet ?_
      refine RefE.retV rfl ?_
      refine RefV.tmp rfl ?_
      exact RefV.nil rfl
    · refine RefC.skip ?_
      refine RefE.next ?_
      refine RefC.seq ?_
      refine RefC.draw mixed [0, 0, 2, 0, 8, 0, 32, 96, 224, 480, 1022, 2046, 4094, 4094, 8191, 24575, 57343] [.lp 0, .lp 1, .li 2, .lp 3, .li 4, .lp 5, .lp 6, .lp 7, .lp 8, .li 9, .hv 10, .lp 11, .lp 12, .lp 13, .lp 14, .lp 15, .hv 16] (by kernel_rfl) ?_
      refine RefD.pure (at_ rfl) rfl (RanP.move rfl) ?_
      refine RefD.pure (at_ rfl) rfl (RanP.fieldAddr fa_52_0 rfl) ?_
      refine RefD.li0 (at_ rfl) rfl (Lt.ldI Tryz.isAgg3 rfl fun x21 => ?_)
      refine RefD.pure (at_ rfl) rfl (RanP.fieldAddr fa_52_2 rfl) ?_
      refine RefD.li0 (at_ rfl) rfl (Lt.ldS Tryz.isAgg9 rfl fun x22 => ?_)
      refine RefD.pure (at_ rfl) rfl (RanP.move rfl) ?_
      refine RefD.any (at_ rfl) rfl (Lt.nn rfl fun x23 => ?_)
      refine RefD.pure (at_ rfl) rfl (RanP.fieldAddr fa_109_0 rfl) ?_
      refine RefD.pure (at_ rfl) rfl (RanP.fieldAddr fa_25_4 rfl) ?_
      refine RefD.li0 (at_ rfl) rfl (Lt.ldI Tryz.isAgg3 rfl fun x24 => ?_)
      refine RefD.hv (at_ rfl) rfl (Hv.call (cut_Frames_ref K x21 x22 x24) Tryz.call74 rfl rfl rfl fun x25 => ?_)
      refine RefD.pure (at_ rfl) rfl (RanP.move rfl) ?_
      refine RefD.pure (at_ rfl) rfl (RanP.extract rfl rfl) ?_
      refine RefD.pure (at_ rfl) rfl (RanP.extract rfl rfl) ?_
      refine RefD.any (at_ rfl) rfl (Lt.nn rfl fun x26 => ?_)
      refine RefD.pure (at_ rfl) rfl (RanP.fieldAddr fa_109_5 rfl) ?_
      refine RefD.hv (at_ rfl) rfl (Hv.st Tryz.sizeOf34 rfl rfl rfl ?_)
      refine RefD.nil ?_
      refine RefE.next ?_
      refine RefC.seq ?_
      refine RefC.region ?_
      refine RefL.pure rfl rfl (RanP.move rfl) ?_
      refine RefL.hv rfl rfl (Hv.call (leg_Leg_move_ref K a0) Tryz.call75 rfl rfl rfl fun x27 => ?_)
      refine RefL.nil ?_
      refine RefE.next ?_
      refine RefC.seq ?_
      refine RefC.region ?_
      refine RefL.pure rfl rfl (RanP.assign rfl) ?_
      refine RefL.nil ?_
      refine RefE.next ?_
      refine RefC.ret ?_
      refine RefE.retV rfl ?_
      refine RefV.tmp rfl ?_
      exact RefV.nil rfl

def bridge_Bridge_settle_1 (K : Nat) (a0 : Addr) (a1 : Addr) : G (Bool) :=
  ldP a0 fun x1 =>
  bnd (queue_Queue_Peek K x1) fun x2 =>
  new [.int .i64 (0 : Int), .int .i64 (0 : Int), .string (ByteArray.mk #[])] 52 fun x3 =>
  st x3 (.agg (Agg.cells x2.1).toArray) <|
  bnd (
    drw <|
    if (!x2.2) = true then
      ret (true)
    else
      ldP a1 fun x9 =>
      nn x9 fun x10 =>
      ldP (x10.add 0) fun x11 =>
      ldG (α := Tapi_Event) x3 fun x12 =>
      bnd (leg_Leg_Send K x11 x12) fun x13 =>
      ret ((!x13))) fun (s14 : Bool) =>
  if s14 = true then
    ret false
  else
    ldP a0 fun x15 =>
    bnd (queue_Queue_Take K x15) fun x16 =>
    ret true
set_option maxRecDepth 100000 in
theorem bridge_Bridge_settle_1_ref (K : Nat) (a0 : Addr) (a1 : Addr) : Does Tryz.prog 126 [.pointer (some a0), .pointer (some a1)] (bridge_Bridge_settle_1 K a0 a1) (fun r => .bool r) := by
  refine Does.of Tryz.func126 rfl rfl rfl ?_
  unfold bridge_Bridge_settle_1
  refine RefC.seq ?_
  refine RefC.region ?_
  refine RefL.pure rfl rfl (RanP.assign rfl) ?_
  refine RefL.nil ?_
  refine RefE.next ?_
  refine RefC.seq ?_
  refine RefC.region ?_
  refine RefL.li rfl rfl (Lt.ldP Tryz.isAgg136 rfl fun x1 => ?_)
  refine RefL.hv rfl rfl (Hv.call (queue_Queue_Peek_ref K x1) Tryz.call127 rfl rfl rfl fun x2 => ?_)
  refine RefL.pure rfl rfl (RanP.move rfl) ?_
  refine RefL.pure rfl rfl (RanP.extract rfl rfl) ?_
  refine RefL.pure rfl rfl (RanP.extract rfl rfl) ?_
  refine RefL.hv rfl rfl (Hv.newZ Tryz.zeroValue52 rfl fun x3 => ?_)
  refine RefL.hv rfl rfl (Hv.st Tryz.sizeOf52 rfl rfl rfl ?_)
  refine RefL.pure rfl rfl (RanP.assign rfl) ?_
  refine RefL.nil ?_
  refine RefE.next ?_
  refine RefC.seq ?_
  refine RefC.seq ?_
  refine RefC.cut (enc := fun (s14 : Bool) => ([(20, .bool s14), (0, .pointer (some a0))] : Env)) ?_ ?_
  · refine RefC.draw mixed [0, 1, 3, 7, 15, 31, 63, 7, 255, 511, 1023] [.lp 0, .lp 1, .lp 2, .li 3, .lp 4, .lp 5, .li 6, .li 7, .hv 8, .lp 9, .lp 10] (by kernel_rfl) ?_
    refine RefD.pure (at_ rfl) rfl (RanP.move rfl) ?_
    refine RefD.pure (at_ rfl) rfl (RanP.not rfl) ?_
    refine RefD.pure (at_ rfl) rfl (RanP.move rfl) ?_
    refine RefD.ite (s := 12) rfl ?_ ?_
    · refine RefD.skipI (at_ rfl) rfl ?_
      refine RefD.skipP (at_ rfl) rfl ?_
      refine RefD.skipP (at_ rfl) rfl ?_
      refine RefD.skipI (at_ rfl) rfl ?_
      refine RefD.skipI (at_ rfl) rfl ?_
      refine RefD.skipH (at_ rfl) rfl ?_
      refine RefD.skipP (at_ rfl) rfl ?_
      refine RefD.pure (at_ rfl) rfl (RanP.pickT rfl rfl) ?_
      refine RefD.nil ?_
      exact RefE.fin (s := (true)) ⟨rfl, rfl, trivial⟩
    · refine RefD.li0 (at_ rfl) rfl (Lt.ldP Tryz.isAgg148 rfl fun x9 => ?_)
      refine RefD.any (at_ rfl) rfl (Lt.nn rfl fun x10 => ?_)
      refine RefD.pure (at_ rfl) rfl (RanP.fieldAddr fa_138_0 rfl) ?_
      refine RefD.li0 (at_ rfl) rfl (Lt.ldP Tryz.isAgg30 rfl fun x11 => ?_)
      refine RefD.li0 (at_ rfl) rfl (Lt.ldG (τ := Tapi_Event) Tryz.isAgg52 Tryz.sizeOf52 rfl fun x12 => ?_)
      refine RefD.hv (at_ rfl) rfl (Hv.call (leg_Leg_Send_ref K x11 x12) Tryz.call25 rfl rfl rfl fun x13 => ?_)
      refine RefD.pure (at_ rfl) rfl (RanP.not rfl) ?_
      refine RefD.pure (at_ rfl) rfl (RanP.pickF rfl rfl) ?_
      refine RefD.nil ?_
      exact RefE.fin (s := ((!x13))) ⟨rfl, rfl, trivial⟩
  · intro s14
    refine RefE.next ?_
    refine RefC.cond rfl ?_ ?_
    · refine RefC.seq ?_
      refine RefC.region ?_
      refine RefL.pure rfl rfl (RanP.assign rfl) ?_
      refine RefL.nil ?_
      refine RefE.next ?_
      refine RefC.ret ?_
      refine RefE.thenRet ?_
      refine RefE.retV rfl ?_
      refine RefV.tmp rfl ?_
      exact RefV.nil rfl
    · refine RefC.skip ?_
      refine RefE.next ?_
      refine RefC.seq ?_
      refine RefC.region ?_
      refine RefL.li rfl rfl (Lt.ldP Tryz.isAgg136 rfl fun x15 => ?_)
      refine RefL.hv rfl rfl (Hv.call (queue_Queue_Take_ref K x15) Tryz.call125 rfl rfl rfl fun x16 => ?_)
      refine RefL.nil ?_
      refine RefE.next ?_
      refine RefC.seq ?_
      refine RefC.region ?_
      refine RefL.pure rfl rfl (RanP.assign rfl) ?_
      refine RefL.nil ?_
      refine RefE.next ?_
      refine RefC.ret ?_
      refine RefE.retV rfl ?_
      refine RefV.tmp rfl ?_
      exact RefV.nil rfl

def bridge_Bridge_settle_l0 (K : Nat) (s312 : Addr × Addr) (again : (Addr × Bool) → G (Unit)) (s339 : Addr × Bool) : G (Unit) :=
  if s339.2 = true then
    ldG (α := Tapi_Event) s339.1 fun x340 =>
    new [.int .i64 (0 : Int), .int .i64 (0 : Int), .string (ByteArray.mk #[])] 52 fun x341 =>
    st x341 (.agg (Agg.cells x340).toArray) <|
    ldP s312.2 fun x342 =>
    bnd (queue_Queue_Take K x342) fun x343 =>
    again (x341, x343.2)
  else
    ret ()
def bridge_Bridge_settle_l1 (K : Nat) (s312 : Addr × Addr) (again : Unit → G (Unit)) (s351 : Unit) : G (Unit) :=
  bnd (bridge_Bridge_settle_1 K s312.2 s312.1) fun x352 =>
  if x352 = true then
    again ()
  else
    ret ()
def bridge_Bridge_settle_l2 (K : Nat) (a0 : Option Addr) (again : Int → G (Unit)) (s187 : Int) : G (Unit) :=
  if (decide (s187 < (2 : Int))) = true then
    bnd (
      bnd (
        drw2 (
          nn a0 fun x296 =>
          chk (0 ≤ s187 ∧ s187 < ((2 : Nat) : Int)) <|
          nn a0 fun x298 =>
          chk (0 ≤ (IntKind.wrap .i64 ((1 : Int) - s187)) ∧ (IntKind.wrap .i64 ((1 : Int) - s187)) < ((2 : Nat) : Int)) <|
          wld fun w301 =>
          ldP (((x298.add 12).add ((IntKind.wrap .i64 ((1 : Int) - s187)).toNat * 7)).add 1) fun x300 =>
          new [.pointer none] 148 fun x302 =>
          agr (like (((x298.add 12).add ((IntKind.wrap .i64 ((1 : Int) - s187)).toNat * 7)).add 1) 1 w301) <|
          new [.pointer none] 136 fun x303 =>
          agr (like (((x298.add 12).add ((IntKind.wrap .i64 ((1 : Int) - s187)).toNat * 7)).add 1) 1 w301) <|
          st x302 (.pointer (some ((x296.add 12).add (s187.toNat * 7)))) <|
          agr (like (((x298.add 12).add ((IntKind.wrap .i64 ((1 : Int) - s187)).toNat * 7)).add 1) 1 w301) <|
          st x303 (.pointer x300) <|
          ret (x302, x303)) (
          nn a0 fun x304 =>
          chk (0 ≤ s187 ∧ s187 < ((2 : Nat) : Int)) <|
          nn a0 fun x306 =>
          chk (0 ≤ (IntKind.wrap .i64 ((1 : Int) - s187)) ∧ (IntKind.wrap .i64 ((1 : Int) - s187)) < ((2 : Nat) : Int)) <|
          wld fun w309 =>
          ldP (((x306.add 12).add ((IntKind.wrap .i64 ((1 : Int) - s187)).toNat * 7)).add 1) fun x308 =>
          new [.pointer none] 136 fun x310 =>
          agr (like (((x306.add 12).add ((IntKind.wrap .i64 ((1 : Int) - s187)).toNat * 7)).add 1) 1 w309) <|
          new [.pointer none] 148 fun x311 =>
          agr (like (((x306.add 12).add ((IntKind.wrap .i64 ((1 : Int) - s187)).toNat * 7)).add 1) 1 w309) <|
          st x311 (.pointer (some ((x304.add 12).add (s187.toNat * 7)))) <|
          agr (like (((x306.add 12).add ((IntKind.wrap .i64 ((1 : Int) - s187)).toNat * 7)).add 1) 1 w309) <|
          st x310 (.pointer x308) <|
          ret (x311, x310))) fun (s312 : Addr × Addr) =>
      ldP s312.1 fun x313 =>
      nn x313 fun x314 =>
      ldB (x314.add 2) fun x315 =>
      bnd (
        if x315 = true then
          ret true
        else
          ldP s312.1 fun x317 =>
          nn x317 fun x318 =>
          ldP (x318.add 0) fun x319 =>
          bnd (leg_Leg_Sent K x319) fun x320 =>
          ret x320) fun (x316 : Bool) =>
      if x316 = true then
        ldP s312.2 fun x321 =>
        bnd (queue_Queue_Take K x321) fun x322 =>
        new [.int .i64 (0 : Int), .int .i64 (0 : Int), .string (ByteArray.mk #[])] 52 fun x323 =>
        st x323 (.agg (Agg.cells x322.1).toArray) <|
        bnd (
          loopG (bridge_Bridge_settle_l0 K s312) K (x323, x322.2)) fun (s344 : Unit) =>
        ret ()
      else
        bnd (
          loopG (bridge_Bridge_settle_l1 K s312) K ()) fun (s353 : Unit) =>
        ldP s312.1 fun x354 =>
        nn x354 fun x355 =>
        ldI .i64 (x355.add 3) fun x356 =>
        bnd (
          if (decide ((0 : Int) ≤ x356)) = true then
            ldP s312.1 fun x358 =>
            nn x358 fun x359 =>
            ldP (x359.add 0) fun x360 =>
            bnd (leg_Leg_Free K x360) fun x361 =>
            ret x361
          else
            ret false) fun (x357 : Bool) =>
        bnd (
          if x357 = true then
            ldP s312.2 fun x363 =>
            bnd (queue_Queue_Len K x363) fun x364 =>
            ret (x364 == (0 : Int))
          else
            ret false) fun (x362 : Bool) =>
        if x362 = true then
          drw <|
          ldP s312.1 fun x365 =>
          nn x365 fun x366 =>
          ldP (x366.add 0) fun x367 =>
          ldP s312.1 fun x368 =>
          nn x368 fun x369 =>
          ldI .i64 (x369.add 3) fun x370 =>
          bnd (leg_Leg_Close K x367 x370 (ByteArray.mk #[])) fun x371 =>
          ret ()
        else
          ret ()) fun (s372 : Unit) =>
    again ((IntKind.wrap .i64 (s187 + (1 : Int))))
  else
    ret ()
def bridge_Bridge_settle (K : Nat) (a0 : Option Addr) : G (Unit) :=
  loopG (bridge_Bridge_settle_l2 K a0) K ((0 : Int))
set_option maxRecDepth 100000 in
theorem bridge_Bridge_settle_ref (K : Nat) (a0 : Option Addr) : Does Tryz.prog 87 [.pointer a0] (bridge_Bridge_settle K a0) (fun _ => .tuple #[]) := by
  refine Does.of Tryz.func87 rfl rfl rfl ?_
  unfold bridge_Bridge_settle
  refine RefC.seq ?_
  refine RefC.region ?_
  refine RefL.pure rfl rfl (RanP.move rfl) ?_
  refine RefL.nil ?_
  refine RefE.next ?_
  refine RefC.block ?_
  refine RefC.loopW (enc := fun (s187 : Int) => ([(8, .int .i64 s187), (0, .pointer a0)] : Env)) ⟨rfl, rfl, trivial⟩ ?_ _
  intro again k ih s187
  unfold bridge_Bridge_settle_l2
  refine RefC.seq ?_
  refine RefC.region ?_
  refine RefL.pure rfl rfl (RanP.lss rfl rfl) ?_
  refine RefL.nil ?_
  refine RefE.next ?_
  refine RefC.seq ?_
  refine RefC.cond rfl ?_ ?_
  · refine RefC.skip ?_
    refine RefE.next ?_
    refine RefC.seq ?_
    refine RefC.cut (enc := fun (s372 : Unit) => ([(0, .pointer a0), (8, .int .i64 s187)] : Env)) ?_ ?_
    · refine RefC.block ?_
      refine RefC.seq ?_
      refine RefC.region ?_
      refine RefL.pure rfl rfl (RanP.move rfl) ?_
      refine RefL.pure rfl rfl (RanP.assign rfl) ?_
      refine RefL.nil ?_
      refine RefE.next ?_
      refine RefC.seq ?_
      refine RefC.cut (enc := fun (s312 : Addr × Addr) => ([(3, .pointer (some s312.1)), (4, .pointer (some s312.2)), (0, .pointer a0), (8, .int .i64 s187)] : Env)) ?_ ?_
      · refine RefC.draw2 mixed [0, 0, 1, 5, 15, 0, 0, 64, 32, 288, 992, 2016, 4064, 0, 0, 24607, 65535] [.lp 0, .lp 1, .lp 2, .lp 3, .lp 4, .lp 5, .lp 6, .lp 7, .lp 8, .lp 9, .lp 10, .lp 11, .li 12, .hv 13, .re 12, .hv 14, .re 12, .hv 15, .re 12, .hv 16] [.lp 0, .lp 1, .lp 2, .lp 3, .lp 4, .lp 5, .lp 6, .lp 7, .lp 8, .lp 9, .lp 10, .lp 11, .li 12, .hv 14, .re 12, .hv 13, .re 12, .hv 15, .re 12, .hv 16] (by kernel_rfl) ?_ ?_
        · refine RefD.pure (at_ rfl) rfl (RanP.move rfl) ?_
          refine RefD.pure (at_ rfl) rfl (RanP.move rfl) ?_
          refine RefD.any (at_ rfl) rfl (Lt.nn rfl fun x296 => ?_)
          refine RefD.pure (at_ rfl) rfl (RanP.fieldAddr fa_141_1 rfl) ?_
          refine RefD.chk fun h297 => ?_
          refine RefD.pure (at_ rfl) rfl (RanP.ixArr (len := 2) h297 Tryz.underlying139 Tryz.sizeOf138 rfl rfl) ?_
          refine RefD.pure (at_ rfl) rfl (RanP.move rfl) ?_
          refine RefD.pure (at_ rfl) rfl (RanP.move rfl) ?_
          refine RefD.pure (at_ rfl) rfl (RanP.sub rfl rfl) ?_
          refine RefD.any (at_ rfl) rfl (Lt.nn rfl fun x298 => ?_)
          refine RefD.pure (at_ rfl) rfl (RanP.fieldAddr fa_141_1 rfl) ?_
          refine RefD.chk fun h299 => ?_
          refine RefD.pure (at_ rfl) rfl (RanP.ixArr (len := 2) h299 Tryz.underlying139 Tryz.sizeOf138 rfl rfl) ?_
          refine RefD.pure (at_ rfl) rfl (RanP.fieldAddr fa_138_1 rfl) ?_
          refine RefD.li (at_ rfl) rfl fun w301 => (Lt.ldP Tryz.isAgg136 rfl fun x300 => ?_)
          refine RefD.hv (at_ rfl) rfl (Hv.newZ Tryz.zeroValue148 rfl fun x302 => ?_)
          refine RefD.re rfl ?_
          refine RefD.hv (at_ rfl) rfl (Hv.newZ Tryz.zeroValue136 rfl fun x303 => ?_)
          refine RefD.re rfl ?_
          refine RefD.hv (at_ rfl) rfl (Hv.st Tryz.sizeOf148 rfl rfl rfl ?_)
          refine RefD.re rfl ?_
          refine RefD.hv (at_ rfl) rfl (Hv.st Tryz.sizeOf136 rfl rfl rfl ?_)
          refine RefD.nil ?_
          exact RefE.fin (s := (x302, x303)) ⟨rfl, rfl, rfl, rfl, trivial⟩
        · refine RefD.pure (at_ rfl) rfl (RanP.move rfl) ?_
          refine RefD.pure (at_ rfl) rfl (RanP.move rfl) ?_
          refine RefD.any (at_ rfl) rfl (Lt.nn rfl fun x304 => ?_)
          refine RefD.pure (at_ rfl) rfl (RanP.fieldAddr fa_141_1 rfl) ?_
          refine RefD.chk fun h305 => ?_
          refine RefD.pure (at_ rfl) rfl (RanP.ixArr (len := 2) h305 Tryz.underlying139 Tryz.sizeOf138 rfl rfl) ?_
          refine RefD.pure (at_ rfl) rfl (RanP.move rfl) ?_
          refine RefD.pure (at_ rfl) rfl (RanP.move rfl) ?_
          refine RefD.pure (at_ rfl) rfl (RanP.sub rfl rfl) ?_
          refine RefD.any (at_ rfl) rfl (Lt.nn rfl fun x306 => ?_)
          refine RefD.pure (at_ rfl) rfl (RanP.fieldAddr fa_141_1 rfl) ?_
          refine RefD.chk fun h307 => ?_
          refine RefD.pure (at_ rfl) rfl (RanP.ixArr (len := 2) h307 Tryz.underlying139 Tryz.sizeOf138 rfl rfl) ?_
          refine RefD.pure (at_ rfl) rfl (RanP.fieldAddr fa_138_1 rfl) ?_
          refine RefD.li (at_ rfl) rfl fun w309 => (Lt.ldP Tryz.isAgg136 rfl fun x308 => ?_)
          refine RefD.hv (at_ rfl) rfl (Hv.newZ Tryz.zeroValue136 rfl fun x310 => ?_)
          refine RefD.re rfl ?_
          refine RefD.hv (at_ rfl) rfl (Hv.newZ Tryz.zeroValue148 rfl fun x311 => ?_)
          refine RefD.re rfl ?_
          refine RefD.hv (at_ rfl) rfl (Hv.st Tryz.sizeOf148 rfl rfl rfl ?_)
          refine RefD.re rfl ?_
          refine RefD.hv (at_ rfl) rfl (Hv.st Tryz.sizeOf136 rfl rfl rfl ?_)
          refine RefD.nil ?_
          exact RefE.fin (s := (x311, x310)) ⟨rfl, rfl, rfl, rfl, trivial⟩
      · intro s312
        refine RefE.next ?_
        refine RefC.seq ?_
        refine RefC.seq ?_
        refine RefC.region ?_
        refine RefL.li rfl rfl (Lt.ldP Tryz.isAgg148 rfl fun x313 => ?_)
        refine RefL.li rfl rfl (Lt.nn rfl fun x314 => ?_)
        refine RefL.pure rfl rfl (RanP.fieldAddr fa_138_2 rfl) ?_
        refine RefL.li rfl rfl (Lt.ldB Tryz.isAgg4 rfl fun x315 => ?_)
        refine RefL.pure rfl rfl (RanP.move rfl) ?_
        refine RefL.cut (enc := fun (x316 : Bool) => ([(34, .bool x316), (0, .pointer a0), (3, .pointer (some s312.1)), (4, .pointer (some s312.2)), (8, .int .i64 s187)] : Env)) 6 ?_ ?_
        · refine RefL.ite (s := 28) rfl ?_ ?_
          · refine RefL.skip rfl rfl ?_
            refine RefL.skip rfl rfl ?_
            refine RefL.skip rfl rfl ?_
            refine RefL.skip rfl rfl ?_
            refine RefL.skip rfl rfl ?_
            refine RefL.pure rfl rfl (RanP.pickT rfl rfl) ?_
            refine RefL.nil ?_
            exact RefE.fin (s := true) ⟨rfl, rfl, rfl, rfl, rfl, trivial⟩
          · refine RefL.li rfl rfl (Lt.ldP Tryz.isAgg148 rfl fun x317 => ?_)
            refine RefL.li rfl rfl (Lt.nn rfl fun x318 => ?_)
            refine RefL.pure rfl rfl (RanP.fieldAddr fa_138_0 rfl) ?_
            refine RefL.li rfl rfl (Lt.ldP Tryz.isAgg30 rfl fun x319 => ?_)
            refine RefL.hv rfl rfl (Hv.call (leg_Leg_Sent_ref K x319) Tryz.call32 rfl rfl rfl fun x320 => ?_)
            refine RefL.pure rfl rfl (RanP.pickF rfl rfl) ?_
            refine RefL.nil ?_
            exact RefE.fin (s := x320) ⟨rfl, rfl, rfl, rfl, rfl, trivial⟩
        · intro x316
          refine RefL.nil ?_
          refine RefE.next ?_
          refine RefC.cond rfl ?_ ?_
          · refine RefC.seq ?_
            refine RefC.seq ?_
            refine RefC.region ?_
            refine RefL.li rfl rfl (Lt.ldP Tryz.isAgg136 rfl fun x321 => ?_)
            refine RefL.hv rfl rfl (Hv.call (queue_Queue_Take_ref K x321) Tryz.call125 rfl rfl rfl fun x322 => ?_)
            refine RefL.pure rfl rfl (RanP.move rfl) ?_
            refine RefL.pure rfl rfl (RanP.extract rfl rfl) ?_
            refine RefL.pure rfl rfl (RanP.extract rfl rfl) ?_
            refine RefL.hv rfl rfl (Hv.newZ Tryz.zeroValue52 rfl fun x323 => ?_)
            refine RefL.hv rfl rfl (Hv.st Tryz.sizeOf52 rfl rfl rfl ?_)
            refine RefL.pure rfl rfl (RanP.assign rfl) ?_
            refine RefL.nil ?_
            refine RefE.next ?_
            refine RefC.cut (enc := fun (s344 : Unit) => ([(0, .pointer a0), (8, .int .i64 s187)] : Env)) ?_ ?_
            · refine RefC.block ?_
              refine RefC.loopW (enc := fun (s339 : Addr × Bool) => ([(5, .pointer (some s339.1)), (6, .bool s339.2), (0, .pointer a0), (4, .pointer (some s312.2)), (8, .int .i64 s187)] : Env)) ⟨rfl, rfl, rfl, rfl, rfl, trivial⟩ ?_ _
              intro again k ih s339
              unfold bridge_Bridge_settle_l0
              refine RefC.seq ?_
              refine RefC.seq ?_
              refine RefC.region ?_
              refine RefL.pure rfl rfl (RanP.move rfl) ?_
              refine RefL.nil ?_
              refine RefE.next ?_
              refine RefC.cond rfl ?_ ?_
              · refine RefC.skip ?_
                refine RefE.next ?_
                refine RefC.seq ?_
                refine RefC.block ?_
                refine RefC.skip ?_
                refine RefE.blockNormal ?_
                refine RefE.next ?_
                refine RefC.seq ?_
                refine RefC.seq ?_
                refine RefC.region ?_
                refine RefL.li rfl rfl (Lt.ldG (τ := Tapi_Event) Tryz.isAgg52 Tryz.sizeOf52 rfl fun x340 => ?_)
                refine RefL.nil ?_
                refine RefE.next ?_
                refine RefC.region ?_
                refine RefL.hv rfl rfl (Hv.newZ Tryz.zeroValue52 rfl fun x341 => ?_)
                refine RefL.hv rfl rfl (Hv.st Tryz.sizeOf52 rfl rfl rfl ?_)
                refine RefL.nil ?_
                refine RefE.next ?_
                refine RefC.region ?_
                refine RefL.li rfl rfl (Lt.ldP Tryz.isAgg136 rfl fun x342 => ?_)
                refine RefL.hv rfl rfl (Hv.call (queue_Queue_Take_ref K x342) Tryz.call125 rfl rfl rfl fun x343 => ?_)
                refine RefL.pure rfl rfl (RanP.move rfl) ?_
                refine RefL.pure rfl rfl (RanP.extract rfl rfl) ?_
                refine RefL.pure rfl rfl (RanP.extract rfl rfl) ?_
                refine RefL.pure rfl rfl (RanP.assign rfl) ?_
                refine RefL.nil ?_
                exact RefE.again (ih (x341, x343.2)) ⟨rfl, rfl, rfl, rfl, rfl, trivial⟩
              · refine RefC.exit ?_
                refine RefE.thenExit ?_
                refine RefE.roundExit ?_
                refine RefE.blockExit ?_
                exact RefE.fin (s := ()) ⟨rfl, rfl, trivial⟩
            · intro s344
              refine RefE.next ?_
              refine RefC.exit ?_
              refine RefE.thenExit ?_
              refine RefE.blockExit ?_
              exact RefE.fin (s := ()) ⟨rfl, rfl, trivial⟩
          · refine RefC.skip ?_
            refine RefE.next ?_
            refine RefC.seq ?_
            refine RefC.region ?_
            refine RefL.pure rfl rfl (RanP.makeFunc rfl rfl) ?_
            refine RefL.pure rfl rfl (RanP.assign rfl) ?_
            refine RefL.nil ?_
            refine RefE.next ?_
            refine RefC.seq ?_
            refine RefC.cut (enc := fun (s353 : Unit) => ([(0, .pointer a0), (3, .pointer (some s312.1)), (4, .pointer (some s312.2)), (8, .int .i64 s187)] : Env)) ?_ ?_
            · refine RefC.block ?_
              refine RefC.loopW (enc := fun (s351 : Unit) => ([(0, .pointer a0), (3, .pointer (some s312.1)), (4, .pointer (some s312.2)), (7, .func (.func 126) #[] #[.pointer (some s312.2), .pointer (some s312.1)]), (8, .int .i64 s187)] : Env)) ⟨rfl, rfl, rfl, rfl, rfl, trivial⟩ ?_ _
              intro again k ih s351
              unfold bridge_Bridge_settle_l1
              refine RefC.seq ?_
              refine RefC.seq ?_
              refine RefC.region ?_
              refine RefL.pure rfl rfl (RanP.move rfl) ?_
              refine RefL.hv rfl rfl (Hv.call (bridge_Bridge_settle_1_ref K s312.2 s312.1) Tryz.call126 rfl rfl rfl fun x352 => ?_)
              refine RefL.nil ?_
              refine RefE.next ?_
              refine RefC.cond rfl ?_ ?_
              · refine RefC.skip ?_
                refine RefE.next ?_
                refine RefC.block ?_
                refine RefC.skip ?_
                refine RefE.blockNormal ?_
                exact RefE.again (ih ()) ⟨rfl, rfl, rfl, rfl, rfl, trivial⟩
              · refine RefC.exit ?_
                refine RefE.thenExit ?_
                refine RefE.roundExit ?_
                refine RefE.blockExit ?_
                exact RefE.fin (s := ()) ⟨rfl, rfl, rfl, rfl, trivial⟩
            · intro s353
              refine RefE.next ?_
              refine RefC.seq ?_
              refine RefC.region ?_
              refine RefL.li rfl rfl (Lt.ldP Tryz.isAgg148 rfl fun x354 => ?_)
              refine RefL.li rfl rfl (Lt.nn rfl fun x355 => ?_)
              refine RefL.pure rfl rfl (RanP.fieldAddr fa_138_3 rfl) ?_
              refine RefL.li rfl rfl (Lt.ldI Tryz.isAgg3 rfl fun x356 => ?_)
              refine RefL.pure rfl rfl (RanP.geq rfl rfl) ?_
              refine RefL.pure rfl rfl (RanP.move rfl) ?_
              refine RefL.cut (enc := fun (x357 : Bool) => ([(61, .bool x357), (0, .pointer a0), (3, .pointer (some s312.1)), (4, .pointer (some s312.2)), (8, .int .i64 s187)] : Env)) 6 ?_ ?_
              · refine RefL.ite (s := 55) rfl ?_ ?_
                · refine RefL.li rfl rfl (Lt.ldP Tryz.isAgg148 rfl fun x358 => ?_)
                  refine RefL.li rfl rfl (Lt.nn rfl fun x359 => ?_)
                  refine RefL.pure rfl rfl (RanP.fieldAddr fa_138_0 rfl) ?_
                  refine RefL.li rfl rfl (Lt.ldP Tryz.isAgg30 rfl fun x360 => ?_)
                  refine RefL.hv rfl rfl (Hv.call (leg_Leg_Free_ref K x360) Tryz.call53 rfl rfl rfl fun x361 => ?_)
                  refine RefL.pure rfl rfl (RanP.pickT rfl rfl) ?_
                  refine RefL.nil ?_
                  exact RefE.fin (s := x361) ⟨rfl, rfl, rfl, rfl, rfl, trivial⟩
                · refine RefL.skip rfl rfl ?_
                  refine RefL.skip rfl rfl ?_
                  refine RefL.skip rfl rfl ?_
                  refine RefL.skip rfl rfl ?_
                  refine RefL.skip rfl rfl ?_
                  refine RefL.pure rfl rfl (RanP.pickF rfl rfl) ?_
                  refine RefL.nil ?_
                  exact RefE.fin (s := false) ⟨rfl, rfl, rfl, rfl, rfl, trivial⟩
              · intro x357
                refine RefL.pure rfl rfl (RanP.move rfl) ?_
                refine RefL.cut (enc := fun (x362 : Bool) => ([(66, .bool x362), (0, .pointer a0), (3, .pointer (some s312.1)), (8, .int .i64 s187)] : Env)) 4 ?_ ?_
                · refine RefL.ite (s := 62) rfl ?_ ?_
                  · refine RefL.li rfl rfl (Lt.ldP Tryz.isAgg136 rfl fun x363 => ?_)
                    refine RefL.hv rfl rfl (Hv.call (queue_Queue_Len_ref K x363) Tryz.call92 rfl rfl rfl fun x364 => ?_)
                    refine RefL.pure rfl rfl (RanP.eql rfl rfl) ?_
                    refine RefL.pure rfl rfl (RanP.pickT rfl rfl) ?_
                    refine RefL.nil ?_
                    exact RefE.fin (s := (x364 == (0 : Int))) ⟨rfl, rfl, rfl, rfl, trivial⟩
                  · refine RefL.skip rfl rfl ?_
                    refine RefL.skip rfl rfl ?_
                    refine RefL.skip rfl rfl ?_
                    refine RefL.pure rfl rfl (RanP.pickF rfl rfl) ?_
                    refine RefL.nil ?_
                    exact RefE.fin (s := false) ⟨rfl, rfl, rfl, rfl, trivial⟩
                · intro x362
                  refine RefL.nil ?_
                  refine RefE.next ?_
                  refine RefC.cond rfl ?_ ?_
                  · refine RefC.draw mixed [0, 1, 3, 7, 0, 16, 48, 112, 255] [.li 0, .lp 1, .lp 2, .li 3, .li 4, .lp 5, .lp 6, .li 7, .hv 8] (by kernel_rfl) ?_
                    refine RefD.li0 (at_ rfl) rfl (Lt.ldP Tryz.isAgg148 rfl fun x365 => ?_)
                    refine RefD.any (at_ rfl) rfl (Lt.nn rfl fun x366 => ?_)
                    refine RefD.pure (at_ rfl) rfl (RanP.fieldAddr fa_138_0 rfl) ?_
                    refine RefD.li0 (at_ rfl) rfl (Lt.ldP Tryz.isAgg30 rfl fun x367 => ?_)
                    refine RefD.li0 (at_ rfl) rfl (Lt.ldP Tryz.isAgg148 rfl fun x368 => ?_)
                    refine RefD.any (at_ rfl) rfl (Lt.nn rfl fun x369 => ?_)
                    refine RefD.pure (at_ rfl) rfl (RanP.fieldAddr fa_138_3 rfl) ?_
                    refine RefD.li0 (at_ rfl) rfl (Lt.ldI Tryz.isAgg3 rfl fun x370 => ?_)
                    refine RefD.hv (at_ rfl) rfl (Hv.call (leg_Leg_Close_ref K x367 x370 (ByteArray.mk #[])) Tryz.call27 rfl rfl rfl fun x371 => ?_)
                    refine RefD.nil ?_
                    refine RefE.blockNormal ?_
                    exact RefE.fin (s := ()) ⟨rfl, rfl, trivial⟩
                  · refine RefC.skip ?_
                    refine RefE.blockNormal ?_
                    exact RefE.fin (s := ()) ⟨rfl, rfl, trivial⟩
    · intro s372
      refine RefE.next ?_
      refine RefC.region ?_
      refine RefL.pure rfl rfl (RanP.add rfl rfl) ?_
      refine RefL.pure rfl rfl (RanP.move rfl) ?_
      refine RefL.nil ?_
      exact RefE.again (ih ((IntKind.wrap .i64 (s187 + (1 : Int))))) ⟨rfl, rfl, trivial⟩
  · refine RefC.exit ?_
    refine RefE.thenExit ?_
    refine RefE.roundExit ?_
    refine RefE.blockExit ?_
    refine RefE.endV rfl ?_
    exact RefV.nil rfl

def bridge_Bridge_hear_l0 (K : Nat) (x7 : Sl) (x1 : Addr) (a1 : Int) (x3 : Addr) (again : Int → G (Unit)) (s80 : Int) : G (Unit) :=
  if (decide (s80 < (x7.n : Int))) = true then
    ixA x7 s80 3 fun x81 =>
    ldG (α := Tapi_Event) x81 fun x82 =>
    new [.int .i64 (0 : Int), .int .i64 (0 : Int), .string (ByteArray.mk #[])] 52 fun x83 =>
    st x83 (.agg (Agg.cells x82).toArray) <|
    ldI .i64 (x83.add 0) fun x84 =>
    lt (x84 == (1 : Int)) fun x85 =>
    bnd (
      if x85 = true then
        ret (x85)
      else
        lt (x84 == (2 : Int)) fun x87 =>
        ret (x87)) fun (s88 : Bool) =>
    bnd (
      if s88 = true then
        drw <|
        ldP (((x1.add 12).add (a1.toNat * 7)).add 1) fun x96 =>
        ldG (α := Tapi_Event) x83 fun x97 =>
        bnd (queue_Queue_Put K x96 x97) fun x98 =>
        ret ()
      else
        lt (x84 == (8 : Int)) fun x99 =>
        if x99 = true then
          ldI .i64 (x83.add 1) fun x100 =>
          bnd (close_Across K x100) fun x101 =>
          bnd (bridge_side_end K (some ((x3.add 12).add ((IntKind.wrap .i64 ((1 : Int) - a1)).toNat * 7))) x101) fun x102 =>
          ret ()
        else
          ret ()) fun (s103 : Unit) =>
    again ((IntKind.wrap .i64 (s80 + (1 : Int))))
  else
    ret ()
def bridge_Bridge_hear (K : Nat) (a0 : Option Addr) (a1 : Int) (a2 : Int) : G (Unit) :=
  drw <|
  nn a0 fun x1 =>
  chk (0 ≤ a1 ∧ a1 < ((2 : Nat) : Int)) <|
  nn a0 fun x3 =>
  chk (0 ≤ (IntKind.wrap .i64 ((1 : Int) - a1)) ∧ (IntKind.wrap .i64 ((1 : Int) - a1)) < ((2 : Nat) : Int)) <|
  st (((x1.add 12).add (a1.toNat * 7)).add 4) (.int .i64 (0 : Int)) <|
  st (((x1.add 12).add (a1.toNat * 7)).add 5) (.bool false) <|
  ldP (((x1.add 12).add (a1.toNat * 7)).add 0) fun x5 =>
  new [.int .u8 a2] 5 fun x6 =>
  bnd (leg_Leg_Feed K x5 (Sl.mk (some x6) 1 1)) fun x7 =>
  bnd (
    loopG (bridge_Bridge_hear_l0 K x7 x1 a1 x3) K ((0 : Int))) fun (s104 : Unit) =>
  ldP (((x1.add 12).add (a1.toNat * 7)).add 0) fun x105 =>
  bnd (leg_Leg_Wrong K x105) fun x106 =>
  bnd (
    if (x106 != (0 : Int)) = true then
      bnd (bridge_side_end K (some ((x3.add 12).add ((IntKind.wrap .i64 ((1 : Int) - a1)).toNat * 7))) (1001 : Int)) fun x108 =>
      ret ()
    else
      ret ()) fun (s109 : Unit) =>
  bnd (bridge_Bridge_settle K a0) fun x110 =>
  ret ()
set_option maxRecDepth 100000 in
theorem bridge_Bridge_hear_ref (K : Nat) (a0 : Option Addr) (a1 : Int) (a2 : Int) : Does Tryz.prog 86 [.pointer a0, .int .i64 a1, .int .u8 a2] (bridge_Bridge_hear K a0 a1 a2) (fun _ => .tuple #[]) := by
  refine Does.of Tryz.func86 rfl rfl rfl ?_
  unfold bridge_Bridge_hear
  refine RefC.seq ?_
  refine RefC.draw mixed [0, 0, 1, 5, 15, 0, 0, 64, 32, 288, 992, 31, 4095] [.lp 0, .lp 1, .lp 2, .lp 3, .lp 4, .lp 5, .lp 6, .lp 7, .lp 8, .lp 9, .lp 10, .lp 11, .lp 12] (by kernel_rfl) ?_
  refine RefD.pure (at_ rfl) rfl (RanP.move rfl) ?_
  refine RefD.pure (at_ rfl) rfl (RanP.move rfl) ?_
  refine RefD.any (at_ rfl) rfl (Lt.nn rfl fun x1 => ?_)
  refine RefD.pure (at_ rfl) rfl (RanP.fieldAddr fa_141_1 rfl) ?_
  refine RefD.chk fun h2 => ?_
  refine RefD.pure (at_ rfl) rfl (RanP.ixArr (len := 2) h2 Tryz.underlying139 Tryz.sizeOf138 rfl rfl) ?_
  refine RefD.pure (at_ rfl) rfl (RanP.move rfl) ?_
  refine RefD.pure (at_ rfl) rfl (RanP.move rfl) ?_
  refine RefD.pure (at_ rfl) rfl (RanP.sub rfl rfl) ?_
  refine RefD.any (at_ rfl) rfl (Lt.nn rfl fun x3 => ?_)
  refine RefD.pure (at_ rfl) rfl (RanP.fieldAddr fa_141_1 rfl) ?_
  refine RefD.chk fun h4 => ?_
  refine RefD.pure (at_ rfl) rfl (RanP.ixArr (len := 2) h4 Tryz.underlying139 Tryz.sizeOf138 rfl rfl) ?_
  refine RefD.pure (at_ rfl) rfl (RanP.assign rfl) ?_
  refine RefD.pure (at_ rfl) rfl (RanP.assign rfl) ?_
  refine RefD.nil ?_
  refine RefE.next ?_
  refine RefC.seq ?_
  refine RefC.region ?_
  refine RefL.pure rfl rfl (RanP.move rfl) ?_
  refine RefL.pure rfl rfl (RanP.move rfl) ?_
  refine RefL.pure rfl rfl (RanP.nilCheck rfl) ?_
  refine RefL.pure rfl rfl (RanP.fieldAddr fa_138_4 rfl) ?_
  refine RefL.hv rfl rfl (Hv.st Tryz.sizeOf3 rfl rfl rfl ?_)
  refine RefL.pure rfl rfl (RanP.nilCheck rfl) ?_
  refine RefL.pure rfl rfl (RanP.fieldAddr fa_138_5 rfl) ?_
  refine RefL.hv rfl rfl (Hv.st Tryz.sizeOf4 rfl rfl rfl ?_)
  refine RefL.nil ?_
  refine RefE.next ?_
  refine RefC.seq ?_
  refine RefC.seq ?_
  refine RefC.region ?_
  refine RefL.pure rfl rfl (RanP.move rfl) ?_
  refine RefL.pure rfl rfl (RanP.nilCheck rfl) ?_
  refine RefL.pure rfl rfl (RanP.fieldAddr fa_138_0 rfl) ?_
  refine RefL.li rfl rfl (Lt.ldP Tryz.isAgg30 rfl fun x5 => ?_)
  refine RefL.pure rfl rfl (RanP.move rfl) ?_
  refine RefL.hv rfl rfl (Hv.buildSlice rfl (cs := [.int .u8 a2]) (e := 5) (fun _ => by kernel_rfl) fun x6 => ?_)
  refine RefL.hv rfl rfl (Hv.call (leg_Leg_Feed_ref K x5 (Sl.mk (some x6) 1 1)) Tryz.call24 rfl rfl rfl fun x7 => ?_)
  refine RefL.pure rfl rfl (RanP.lenSl rfl Tryz.underlying47 rfl) ?_
  refine RefL.pure rfl rfl (RanP.move rfl) ?_
  refine RefL.nil ?_
  refine RefE.next ?_
  refine RefC.cut (enc := fun (s104 : Unit) => ([(0, .pointer a0), (6, .pointer (some ((x1.add 12).add (a1.toNat * 7)))), (7, .pointer (some ((x3.add 12).add ((IntKind.wrap .i64 ((1 : Int) - a1)).toNat * 7))))] : Env)) ?_ ?_
  · refine RefC.block ?_
    refine RefC.loopW (enc := fun (s80 : Int) => ([(35, .int .i64 s80), (0, .pointer a0), (6, .pointer (some ((x1.add 12).add (a1.toNat * 7)))), (7, .pointer (some ((x3.add 12).add ((IntKind.wrap .i64 ((1 : Int) - a1)).toNat * 7)))), (33, .slice x7.a x7.n x7.c), (34, .int .i64 (x7.n : Int))] : Env)) ⟨rfl, rfl, rfl, rfl, rfl, rfl, trivial⟩ ?_ _
    intro again k ih s80
    unfold bridge_Bridge_hear_l0
    refine RefC.seq ?_
    refine RefC.region ?_
    refine RefL.pure rfl rfl (RanP.lss rfl rfl) ?_
    refine RefL.nil ?_
    refine RefE.next ?_
    refine RefC.seq ?_
    refine RefC.cond rfl ?_ ?_
    · refine RefC.skip ?_
      refine RefE.next ?_
      refine RefC.seq ?_
      refine RefC.block ?_
      refine RefC.seq ?_
      refine RefC.region ?_
      refine RefL.li rfl rfl (Lt.ixA Tryz.underlying47 Tryz.sizeOf52 rfl rfl fun x81 => ?_)
      refine RefL.li rfl rfl (Lt.ldG (τ := Tapi_Event) Tryz.isAgg52 Tryz.sizeOf52 rfl fun x82 => ?_)
      refine RefL.hv rfl rfl (Hv.newZ Tryz.zeroValue52 rfl fun x83 => ?_)
      refine RefL.hv rfl rfl (Hv.st Tryz.sizeOf52 rfl rfl rfl ?_)
      refine RefL.nil ?_
      refine RefE.next ?_
      refine RefC.seq ?_
      refine RefC.region ?_
      refine RefL.pure rfl rfl (RanP.fieldAddr fa_52_0 rfl) ?_
      refine RefL.li rfl rfl (Lt.ldI Tryz.isAgg3 rfl fun x84 => ?_)
      refine RefL.nil ?_
      refine RefE.next ?_
      refine RefC.block ?_
      refine RefC.seq ?_
      refine RefC.seq ?_
      refine RefC.region ?_
      refine RefL.pure rfl rfl (RanP.eql rfl rfl) ?_
      refine RefL.pure rfl rfl (RanP.assign rfl) ?_
      refine RefL.lt 41 (fun y => .bool y) rfl fun x85 => ?_
      refine RefL.nil ?_
      refine RefE.next ?_
      refine RefC.cut (enc := fun (s88 : Bool) => ([(41, .bool s88), (0, .pointer a0), (6, .pointer (some ((x1.add 12).add (a1.toNat * 7)))), (7, .pointer (some ((x3.add 12).add ((IntKind.wrap .i64 ((1 : Int) - a1)).toNat * 7)))), (9, .pointer (some x83)), (33, .slice x7.a x7.n x7.c), (34, .int .i64 (x7.n : Int)), (35, .int .i64 s80), (40, .int .i64 x84)] : Env)) ?_ ?_
      · refine RefC.cond rfl ?_ ?_
        · refine RefC.skip ?_
          exact RefE.fin (s := (x85)) ⟨rfl, rfl, rfl, rfl, rfl, rfl, rfl, rfl, rfl, trivial⟩
        · refine RefC.region ?_
          refine RefL.pure rfl rfl (RanP.eql rfl rfl) ?_
          refine RefL.pure rfl rfl (RanP.assign rfl) ?_
          refine RefL.lt 41 (fun y => .bool y) rfl fun x87 => ?_
          refine RefL.nil ?_
          exact RefE.fin (s := (x87)) ⟨rfl, rfl, rfl, rfl, rfl, rfl, rfl, rfl, rfl, trivial⟩
      · intro s88
        refine RefE.next ?_
        refine RefC.cut (enc := fun (s103 : Unit) => ([(0, .pointer a0), (6, .pointer (some ((x1.add 12).add (a1.toNat * 7)))), (7, .pointer (some ((x3.add 12).add ((IntKind.wrap .i64 ((1 : Int) - a1)).toNat * 7)))), (33, .slice x7.a x7.n x7.c), (34, .int .i64 (x7.n : Int)), (35, .int .i64 s80)] : Env)) ?_ ?_
        · refine RefC.cond rfl ?_ ?_
          · refine RefC.draw mixed [0, 1, 3, 7, 0, 31] [.lp 0, .lp 1, .lp 2, .li 3, .li 4, .hv 5] (by kernel_rfl) ?_
            refine RefD.pure (at_ rfl) rfl (RanP.move rfl) ?_
            refine RefD.pure (at_ rfl) rfl (RanP.nilCheck rfl) ?_
            refine RefD.pure (at_ rfl) rfl (RanP.fieldAddr fa_138_1 rfl) ?_
            refine RefD.li0 (at_ rfl) rfl (Lt.ldP Tryz.isAgg136 rfl fun x96 => ?_)
            refine RefD.li0 (at_ rfl) rfl (Lt.ldG (τ := Tapi_Event) Tryz.isAgg52 Tryz.sizeOf52 rfl fun x97 => ?_)
            refine RefD.hv (at_ rfl) rfl (Hv.call (queue_Queue_Put_ref K x96 x97) Tryz.call123 rfl rfl rfl fun x98 => ?_)
            refine RefD.nil ?_
            exact RefE.fin (s := ()) ⟨rfl, rfl, rfl, rfl, rfl, rfl, trivial⟩
          · refine RefC.seq ?_
            refine RefC.region ?_
            refine RefL.pure rfl rfl (RanP.eql rfl rfl) ?_
            refine RefL.pure rfl rfl (RanP.assign rfl) ?_
            refine RefL.lt 50 (fun y => .bool y) rfl fun x99 => ?_
            refine RefL.nil ?_
            refine RefE.next ?_
            refine RefC.cond rfl ?_ ?_
            · refine RefC.region ?_
              refine RefL.pure rfl rfl (RanP.move rfl) ?_
              refine RefL.pure rfl rfl (RanP.fieldAddr fa_52_1 rfl) ?_
              refine RefL.li rfl rfl (Lt.ldI Tryz.isAgg3 rfl fun x100 => ?_)
              refine RefL.hv rfl rfl (Hv.call (close_Across_ref K x100) Tryz.call113 rfl rfl rfl fun x101 => ?_)
              refine RefL.hv rfl rfl (Hv.call (bridge_side_end_ref K (some ((x3.add 12).add ((IntKind.wrap .i64 ((1 : Int) - a1)).toNat * 7))) x101) Tryz.call124 rfl rfl rfl fun x102 => ?_)
              refine RefL.nil ?_
              exact RefE.fin (s := ()) ⟨rfl, rfl, rfl, rfl, rfl, rfl, trivial⟩
            · refine RefC.skip ?_
              exact RefE.fin (s := ()) ⟨rfl, rfl, rfl, rfl, rfl, rfl, trivial⟩
        · intro s103
          refine RefE.blockNormal ?_
          refine RefE.blockNormal ?_
          refine RefE.next ?_
          refine RefC.region ?_
          refine RefL.pure rfl rfl (RanP.add rfl rfl) ?_
          refine RefL.pure rfl rfl (RanP.move rfl) ?_
          refine RefL.nil ?_
          exact RefE.again (ih ((IntKind.wrap .i64 (s80 + (1 : Int))))) ⟨rfl, rfl, rfl, rfl, rfl, rfl, trivial⟩
    · refine RefC.exit ?_
      refine RefE.thenExit ?_
      refine RefE.roundExit ?_
      refine RefE.blockExit ?_
      exact RefE.fin (s := ()) ⟨rfl, rfl, rfl, trivial⟩
  · intro s104
    refine RefE.next ?_
    refine RefC.seq ?_
    refine RefC.seq ?_
    refine RefC.region ?_
    refine RefL.pure rfl rfl (RanP.move rfl) ?_
    refine RefL.pure rfl rfl (RanP.nilCheck rfl) ?_
    refine RefL.pure rfl rfl (RanP.fieldAddr fa_138_0 rfl) ?_
    refine RefL.li rfl rfl (Lt.ldP Tryz.isAgg30 rfl fun x105 => ?_)
    refine RefL.hv rfl rfl (Hv.call (leg_Leg_Wrong_ref K x105) Tryz.call34 rfl rfl rfl fun x106 => ?_)
    refine RefL.pure rfl rfl (RanP.neq rfl rfl) ?_
    refine RefL.nil ?_
    refine RefE.next ?_
    refine RefC.cut (enc := fun (s109 : Unit) => ([(0, .pointer a0)] : Env)) ?_ ?_
    · refine RefC.cond rfl ?_ ?_
      · refine RefC.region ?_
        refine RefL.pure rfl rfl (RanP.move rfl) ?_
        refine RefL.hv rfl rfl (Hv.call (bridge_side_end_ref K (some ((x3.add 12).add ((IntKind.wrap .i64 ((1 : Int) - a1)).toNat * 7))) (1001 : Int)) Tryz.call124 rfl rfl rfl fun x108 => ?_)
        refine RefL.nil ?_
        exact RefE.fin (s := ()) ⟨rfl, trivial⟩
      · refine RefC.skip ?_
        exact RefE.fin (s := ()) ⟨rfl, trivial⟩
    · intro s109
      refine RefE.next ?_
      refine RefC.region ?_
      refine RefL.pure rfl rfl (RanP.move rfl) ?_
      refine RefL.hv rfl rfl (Hv.call (bridge_Bridge_settle_ref K a0) Tryz.call87 rfl rfl rfl fun x110 => ?_)
      refine RefL.nil ?_
      refine RefE.endV rfl ?_
      exact RefV.nil rfl

def bridge_Bridge_Feed_l0 (K : Nat) (a2 : Sl) (x2 : Addr) (a1 : Int) (a0 : Option Addr) (again : Int → G (Int)) (s52 : Int) : G (Int) :=
  bnd (
    drw <|
    if (decide (s52 < (a2.n : Int))) = true then
      bnd (bridge_side_deaf K (some ((x2.add 12).add (a1.toNat * 7)))) fun x58 =>
      if (!x58) = true then
        ldP (((x2.add 12).add (a1.toNat * 7)).add 1) fun x59 =>
        nn a0 fun x60 =>
        ldI .i64 ((x60.add 0).add 3) fun x61 =>
        bnd (queue_Queue_Room K x59 x61) fun x62 =>
        ret (x62)
      else
        ret (false)
    else
      ret (false)) fun (s63 : Bool) =>
  if s63 = true then
    ixA a2 s52 1 fun x64 =>
    ldI .u8 x64 fun x65 =>
    bnd (bridge_Bridge_hear K a0 a1 x65) fun x66 =>
    lt (IntKind.wrap .i64 (s52 + (1 : Int))) fun x67 =>
    again (x67)
  else
    ret (s52)
def bridge_Bridge_Feed (K : Nat) (a0 : Option Addr) (a1 : Int) (a2 : Sl) : G (Int) :=
  bnd (bridge_has K a1) fun x1 =>
  if (!x1) = true then
    ret (0 : Int)
  else
    nn a0 fun x2 =>
    chk (0 ≤ a1 ∧ a1 < ((2 : Nat) : Int)) <|
    bnd (
      loopG (bridge_Bridge_Feed_l0 K a2 x2 a1 a0) K ((0 : Int))) fun (s68 : Int) =>
    bnd (bridge_side_deaf K (some ((x2.add 12).add (a1.toNat * 7)))) fun x69 =>
    if x69 = true then
      lt (a2.n : Int) fun x70 =>
      ret x70
    else
      ret s68
set_option maxRecDepth 100000 in
theorem bridge_Bridge_Feed_ref (K : Nat) (a0 : Option Addr) (a1 : Int) (a2 : Sl) : Does Tryz.prog 41 [.pointer a0, .int .i64 a1, .slice a2.a a2.n a2.c] (bridge_Bridge_Feed K a0 a1 a2) (fun r => .int .i64 r) := by
  refine Does.of Tryz.func41 rfl rfl rfl ?_
  unfold bridge_Bridge_Feed
  refine RefC.seq ?_
  refine RefC.region ?_
  refine RefL.pure rfl rfl (RanP.assign rfl) ?_
  refine RefL.nil ?_
  refine RefE.next ?_
  refine RefC.seq ?_
  refine RefC.seq ?_
  refine RefC.region ?_
  refine RefL.pure rfl rfl (RanP.move rfl) ?_
  refine RefL.hv rfl rfl (Hv.call (bridge_has_ref K a1) Tryz.call83 rfl rfl rfl fun x1 => ?_)
  refine RefL.pure rfl rfl (RanP.not rfl) ?_
  refine RefL.nil ?_
  refine RefE.next ?_
  refine RefC.cond rfl ?_ ?_
  · refine RefC.seq ?_
    refine RefC.region ?_
    refine RefL.pure rfl rfl (RanP.assign rfl) ?_
    refine RefL.nil ?_
    refine RefE.next ?_
    refine RefC.ret ?_
    refine RefE.thenRet ?_
    refine RefE.retV rfl ?_
    refine RefV.tmp rfl ?_
    exact RefV.nil rfl
  · refine RefC.skip ?_
    refine RefE.next ?_
    refine RefC.seq ?_
    refine RefC.region ?_
    refine RefL.pure rfl rfl (RanP.move rfl) ?_
    refine RefL.pure rfl rfl (RanP.move rfl) ?_
    refine RefL.li rfl rfl (Lt.nn rfl fun x2 => ?_)
    refine RefL.pure rfl rfl (RanP.fieldAddr fa_141_1 rfl) ?_
    refine RefL.chk fun h3 => ?_
    refine RefL.pure rfl rfl (RanP.ixArr (len := 2) h3 Tryz.underlying139 Tryz.sizeOf138 rfl rfl) ?_
    refine RefL.pure rfl rfl (RanP.assign rfl) ?_
    refine RefL.nil ?_
    refine RefE.next ?_
    refine RefC.seq ?_
    refine RefC.region ?_
    refine RefL.pure rfl rfl (RanP.assign rfl) ?_
    refine RefL.nil ?_
    refine RefE.next ?_
    refine RefC.seq ?_
    refine RefC.cut (enc := fun (s68 : Int) => ([(8, .int .i64 s68), (2, .slice a2.a a2.n a2.c), (7, .pointer (some ((x2.add 12).add (a1.toNat * 7))))] : Env)) ?_ ?_
    · refine RefC.block ?_
      refine RefC.loopW (enc := fun (s52 : Int) => ([(8, .int .i64 s52), (0, .pointer a0), (1, .int .i64 a1), (2, .slice a2.a a2.n a2.c), (7, .pointer (some ((x2.add 12).add (a1.toNat * 7))))] : Env)) ⟨rfl, rfl, rfl, rfl, rfl, trivial⟩ ?_ _
      intro again k ih s52
      unfold bridge_Bridge_Feed_l0
      refine RefC.seq ?_
      refine RefC.seq ?_
      refine RefC.cut (enc := fun (s63 : Bool) => ([(37, .bool s63), (0, .pointer a0), (1, .int .i64 a1), (2, .slice a2.a a2.n a2.c), (7, .pointer (some ((x2.add 12).add (a1.toNat * 7)))), (8, .int .i64 s52)] : Env)) ?_ ?_
      · refine RefC.draw mixed [0, 0, 2, 7, 15, 31, 63, 127, 255, 511, 1023, 2047, 4095, 8191, 1023, 17407, 50175, 115711, 246783, 524287, 1048575] [.lp 0, .lp 1, .lp 2, .lp 3, .lp 4, .lp 5, .hv 6, .lp 7, .lp 8, .lp 9, .lp 10, .lp 11, .lp 12, .li 13, .lp 14, .lp 15, .lp 16, .lp 17, .li 18, .hv 19, .lp 20] (by kernel_rfl) ?_
        refine RefD.pure (at_ rfl) rfl (RanP.move rfl) ?_
        refine RefD.pure (at_ rfl) rfl (RanP.move rfl) ?_
        refine RefD.pure (at_ rfl) rfl (RanP.lenSl rfl Tryz.underlying49 rfl) ?_
        refine RefD.pure (at_ rfl) rfl (RanP.lss rfl rfl) ?_
        refine RefD.pure (at_ rfl) rfl (RanP.move rfl) ?_
        refine RefD.ite (s := 21) rfl ?_ ?_
        · refine RefD.pure (at_ rfl) rfl (RanP.move rfl) ?_
          refine RefD.hv (at_ rfl) rfl (Hv.call (bridge_side_deaf_ref K (some ((x2.add 12).add (a1.toNat * 7)))) Tryz.call84 rfl rfl rfl fun x58 => ?_)
          refine RefD.pure (at_ rfl) rfl (RanP.not rfl) ?_
          refine RefD.pure (at_ rfl) rfl (RanP.pickT rfl rfl) ?_
          refine RefD.pure (at_ rfl) rfl (RanP.move rfl) ?_
          refine RefD.ite (s := 26) rfl ?_ ?_
          · refine RefD.pure (at_ rfl) rfl (RanP.move rfl) ?_
            refine RefD.pure (at_ rfl) rfl (RanP.nilCheck rfl) ?_
            refine RefD.pure (at_ rfl) rfl (RanP.fieldAddr fa_138_1 rfl) ?_
            refine RefD.li0 (at_ rfl) rfl (Lt.ldP Tryz.isAgg136 rfl fun x59 => ?_)
            refine RefD.pure (at_ rfl) rfl (RanP.move rfl) ?_
            refine RefD.any (at_ rfl) rfl (Lt.nn rfl fun x60 => ?_)
            refine RefD.pure (at_ rfl) rfl (RanP.fieldAddr fa_141_0 rfl) ?_
            refine RefD.pure (at_ rfl) rfl (RanP.fieldAddr fa_25_3 rfl) ?_
            refine RefD.li0 (at_ rfl) rfl (Lt.ldI Tryz.isAgg3 rfl fun x61 => ?_)
            refine RefD.hv (at_ rfl) rfl (Hv.call (queue_Queue_Room_ref K x59 x61) Tryz.call85 rfl rfl rfl fun x62 => ?_)
            refine RefD.pure (at_ rfl) rfl (RanP.pickT rfl rfl) ?_
            refine RefD.nil ?_
            exact RefE.fin (s := (x62)) ⟨rfl, rfl, rfl, rfl, rfl, rfl, trivial⟩
          · refine RefD.skipP (at_ rfl) rfl ?_
            refine RefD.skipP (at_ rfl) rfl ?_
            refine RefD.skipP (at_ rfl) rfl ?_
            refine RefD.skipI (at_ rfl) rfl ?_
            refine RefD.skipP (at_ rfl) rfl ?_
            refine RefD.skipP (at_ rfl) rfl ?_
            refine RefD.skipP (at_ rfl) rfl ?_
            refine RefD.skipP (at_ rfl) rfl ?_
            refine RefD.skipI (at_ rfl) rfl ?_
            refine RefD.skipH (at_ rfl) rfl ?_
            refine RefD.pure (at_ rfl) rfl (RanP.pickF rfl rfl) ?_
            refine RefD.nil ?_
            exact RefE.fin (s := (false)) ⟨rfl, rfl, rfl, rfl, rfl, rfl, trivial⟩
        · refine RefD.skipP (at_ rfl) rfl ?_
          refine RefD.skipH (at_ rfl) rfl ?_
          refine RefD.skipP (at_ rfl) rfl ?_
          refine RefD.pure (at_ rfl) rfl (RanP.pickF rfl rfl) ?_
          refine RefD.pure (at_ rfl) rfl (RanP.move rfl) ?_
          refine RefD.skipP (at_ rfl) rfl ?_
          refine RefD.skipP (at_ rfl) rfl ?_
          refine RefD.skipP (at_ rfl) rfl ?_
          refine RefD.skipI (at_ rfl) rfl ?_
          refine RefD.skipP (at_ rfl) rfl ?_
          refine RefD.skipP (at_ rfl) rfl ?_
          refine RefD.skipP (at_ rfl) rfl ?_
          refine RefD.skipP (at_ rfl) rfl ?_
          refine RefD.skipI (at_ rfl) rfl ?_
          refine RefD.skipH (at_ rfl) rfl ?_
          refine RefD.pure (at_ rfl) rfl (RanP.pickF rfl rfl) ?_
          refine RefD.nil ?_
          exact RefE.fin (s := (false)) ⟨rfl, rfl, rfl, rfl, rfl, rfl, trivial⟩
      · intro s63
        refine RefE.next ?_
        refine RefC.cond rfl ?_ ?_
        · refine RefC.skip ?_
          refine RefE.next ?_
          refine RefC.block ?_
          refine RefC.seq ?_
          refine RefC.region ?_
          refine RefL.pure rfl rfl (RanP.move rfl) ?_
          refine RefL.pure rfl rfl (RanP.move rfl) ?_
          refine RefL.pure rfl rfl (RanP.move rfl) ?_
          refine RefL.pure rfl rfl (RanP.move rfl) ?_
          refine RefL.li rfl rfl (Lt.ixA Tryz.underlying49 Tryz.sizeOf5 rfl rfl fun x64 => ?_)
          refine RefL.li rfl rfl (Lt.ldI Tryz.isAgg5 rfl fun x65 => ?_)
          refine RefL.hv rfl rfl (Hv.call (bridge_Bridge_hear_ref K a0 a1 x65) Tryz.call86 rfl rfl rfl fun x66 => ?_)
          refine RefL.nil ?_
          refine RefE.next ?_
          refine RefC.region ?_
          refine RefL.pure rfl rfl (RanP.move rfl) ?_
          refine RefL.pure rfl rfl (RanP.add rfl rfl) ?_
          refine RefL.pure rfl rfl (RanP.assign rfl) ?_
          refine RefL.lt 8 (fun y => .int .i64 y) rfl fun x67 => ?_
          refine RefL.nil ?_
          refine RefE.blockNormal ?_
          exact RefE.again (ih (x67)) ⟨rfl, rfl, rfl, rfl, rfl, trivial⟩
        · refine RefC.exit ?_
          refine RefE.thenExit ?_
          refine RefE.roundExit ?_
          refine RefE.blockExit ?_
          exact RefE.fin (s := (s52)) ⟨rfl, rfl, rfl, trivial⟩
    · intro s68
      refine RefE.next ?_
      refine RefC.seq ?_
      refine RefC.seq ?_
      refine RefC.region ?_
      refine RefL.pure rfl rfl (RanP.move rfl) ?_
      refine RefL.hv rfl rfl (Hv.call (bridge_side_deaf_ref K (some ((x2.add 12).add (a1.toNat * 7)))) Tryz.call84 rfl rfl rfl fun x69 => ?_)
      refine RefL.nil ?_
      refine RefE.next ?_
      refine RefC.cond rfl ?_ ?_
      · refine RefC.seq ?_
        refine RefC.region ?_
        refine RefL.pure rfl rfl (RanP.move rfl) ?_
        refine RefL.pure rfl rfl (RanP.lenSl rfl Tryz.underlying49 rfl) ?_
        refine RefL.pure rfl rfl (RanP.assign rfl) ?_
        refine RefL.lt 6 (fun y => .int .i64 y) rfl fun x70 => ?_
        refine RefL.nil ?_
        refine RefE.next ?_
        refine RefC.ret ?_
        refine RefE.thenRet ?_
        refine RefE.retV rfl ?_
        refine RefV.tmp rfl ?_
        exact RefV.nil rfl
      · refine RefC.skip ?_
        refine RefE.next ?_
        refine RefC.seq ?_
        refine RefC.region ?_
        refine RefL.pure rfl rfl (RanP.move rfl) ?_
        refine RefL.pure rfl rfl (RanP.assign rfl) ?_
        refine RefL.nil ?_
        refine RefE.next ?_
        refine RefC.ret ?_
        refine RefE.retV rfl ?_
        refine RefV.tmp rfl ?_
        exact RefV.nil rfl

def ring_Ring_Peek (K : Nat) (a0 : Option Addr) (a1 : Int) : G (Sl) :=
  nn a0 fun x1 =>
  ldI .i64 (x1.add 2) fun x2 =>
  lt (if x2 < (if a1 < (0 : Int) then (0 : Int) else a1) then x2 else (if a1 < (0 : Int) then (0 : Int) else a1)) fun x3 =>
  mk 5 1 1 [.int .u8 (0 : Int)] x3 x3 fun x4 =>
  drw <|
  nn a0 fun x5 =>
  ldSl (x5.add 0) fun x6 =>
  nn a0 fun x7 =>
  ldI .i64 (x7.add 1) fun x8 =>
  slS x6 (some x8) none none 1 fun x9 =>
  cpy 1 x4 x9 fun x10 =>
  drw <|
  slS x4 (some x10) none none 1 fun x11 =>
  nn a0 fun x12 =>
  ldSl (x12.add 0) fun x13 =>
  cpy 1 x11 x13 fun x14 =>
  ret x4
set_option maxRecDepth 100000 in
theorem ring_Ring_Peek_ref (K : Nat) (a0 : Option Addr) (a1 : Int) : Does Tryz.prog 96 [.pointer a0, .int .i64 a1] (ring_Ring_Peek K a0 a1) (fun r => .slice r.a r.n r.c) := by
  refine Does.of Tryz.func96 rfl rfl rfl ?_
  unfold ring_Ring_Peek
  refine RefC.seq ?_
  refine RefC.region ?_
  refine RefL.pure rfl rfl (RanP.assign rfl) ?_
  refine RefL.nil ?_
  refine RefE.next ?_
  refine RefC.seq ?_
  refine RefC.region ?_
  refine RefL.pure rfl rfl (RanP.move rfl) ?_
  refine RefL.pure rfl rfl (RanP.max2 rfl) ?_
  refine RefL.pure rfl rfl (RanP.move rfl) ?_
  refine RefL.li rfl rfl (Lt.nn rfl fun x1 => ?_)
  refine RefL.pure rfl rfl (RanP.fieldAddr fa_165_2 rfl) ?_
  refine RefL.li rfl rfl (Lt.ldI Tryz.isAgg3 rfl fun x2 => ?_)
  refine RefL.pure rfl rfl (RanP.min2 rfl) ?_
  refine RefL.pure rfl rfl (RanP.assign rfl) ?_
  refine RefL.lt 1 (fun y => .int .i64 y) rfl fun x3 => ?_
  refine RefL.nil ?_
  refine RefE.next ?_
  refine RefC.seq ?_
  refine RefC.region ?_
  refine RefL.pure rfl rfl (RanP.move rfl) ?_
  refine RefL.hv rfl rfl (Hv.mk (i := Tryz.t5) Tryz.underlying49 rfl rfl rfl rfl rfl rfl fun x4 => ?_)
  refine RefL.pure rfl rfl (RanP.assign rfl) ?_
  refine RefL.nil ?_
  refine RefE.next ?_
  refine RefC.seq ?_
  refine RefC.draw mixed [0, 0, 2, 6, 14, 0, 32, 96, 224, 510, 1023, 2047] [.lp 0, .lp 1, .lp 2, .lp 3, .li 4, .lp 5, .lp 6, .lp 7, .li 8, .lp 9, .hv 10, .lp 11] (by kernel_rfl) ?_
  refine RefD.pure (at_ rfl) rfl (RanP.move rfl) ?_
  refine RefD.pure (at_ rfl) rfl (RanP.move rfl) ?_
  refine RefD.any (at_ rfl) rfl (Lt.nn rfl fun x5 => ?_)
  refine RefD.pure (at_ rfl) rfl (RanP.fieldAddr fa_165_0 rfl) ?_
  refine RefD.li0 (at_ rfl) rfl (Lt.ldSl Tryz.isAgg49 rfl fun x6 => ?_)
  refine RefD.pure (at_ rfl) rfl (RanP.move rfl) ?_
  refine RefD.any (at_ rfl) rfl (Lt.nn rfl fun x7 => ?_)
  refine RefD.pure (at_ rfl) rfl (RanP.fieldAddr fa_165_1 rfl) ?_
  refine RefD.li0 (at_ rfl) rfl (Lt.ldI Tryz.isAgg3 rfl fun x8 => ?_)
  refine RefD.any (at_ rfl) rfl (Lt.slS (kl := .i64) (kh := .i64) (km := .i64) Tryz.underlying49 Tryz.sizeOf5 rfl rfl rfl rfl (by simp) fun x9 => ?_)
  refine RefD.hv (at_ rfl) rfl (Hv.cpy rfl Tryz.underlying49 Tryz.sizeOf5 rfl fun x10 => ?_)
  refine RefD.pure (at_ rfl) rfl (RanP.assign rfl) ?_
  refine RefD.nil ?_
  refine RefE.next ?_
  refine RefC.seq ?_
  refine RefC.draw mixed [0, 0, 3, 0, 8, 24, 56, 127] [.lp 0, .lp 1, .lp 2, .lp 3, .lp 4, .lp 5, .li 6, .hv 7] (by kernel_rfl) ?_
  refine RefD.pure (at_ rfl) rfl (RanP.move rfl) ?_
  refine RefD.pure (at_ rfl) rfl (RanP.move rfl) ?_
  refine RefD.any (at_ rfl) rfl (Lt.slS (kl := .i64) (kh := .i64) (km := .i64) Tryz.underlying49 Tryz.sizeOf5 rfl rfl rfl rfl (by simp) fun x11 => ?_)
  refine RefD.pure (at_ rfl) rfl (RanP.move rfl) ?_
  refine RefD.any (at_ rfl) rfl (Lt.nn rfl fun x12 => ?_)
  refine RefD.pure (at_ rfl) rfl (RanP.fieldAddr fa_165_0 rfl) ?_
  refine RefD.li0 (at_ rfl) rfl (Lt.ldSl Tryz.isAgg49 rfl fun x13 => ?_)
  refine RefD.hv (at_ rfl) rfl (Hv.cpy rfl Tryz.underlying49 Tryz.sizeOf5 rfl fun x14 => ?_)
  refine RefD.nil ?_
  refine RefE.next ?_
  refine RefC.seq ?_
  refine RefC.region ?_
  refine RefL.pure rfl rfl (RanP.move rfl) ?_
  refine RefL.pure rfl rfl (RanP.assign rfl) ?_
  refine RefL.nil ?_
  refine RefE.next ?_
  refine RefC.ret ?_
  refine RefE.retV rfl ?_
  refine RefV.tmp rfl ?_
  exact RefV.nil rfl

end Go.Proofs.YtjdnjlnfcbaokaaGreat

/-
  Go functions as programs over the world, and that the model's code does what they say. Printed by gen.py (own work).
-/
import Derived.Test.YtjdnjlnfcbaokaaGreatFn8
set_option linter.unusedVariables false
set_option linter.unusedSimpArgs false
namespace Go.Proofs.YtjdnjlnfcbaokaaGreat
open Go Go.Lg

def leg_Leg_Ping (K : Nat) (a0 : Option Addr) (a1 : ByteArray) : G (Bool) :=
  nn a0 fun x1 =>
  ldB (x1.add 20) fun x2 =>
  bnd (
    if x2 = true then
      ret true
    else
      nn a0 fun x4 =>
      ldB (x4.add 21) fun x5 =>
      ret x5) fun (x3 : Bool) =>
  bnd (
    if x3 = true then
      ret true
    else
      nn a0 fun x7 =>
      ldI .i64 (x7.add 22) fun x8 =>
      ret (x8 != (0 : Int))) fun (x6 : Bool) =>
  bnd (
    if x6 = true then
      ret true
    else
      ret (decide ((125 : Int) < (a1.size : Int)))) fun (x9 : Bool) =>
  if x9 = true then
    ret false
  else
    nn a0 fun x10 =>
    ldSl (x10.add 16) fun x11 =>
    new (Agg.cells (Tapi_Frame.mk true (9 : Int) false (0 : Int) (0 : Int) (0 : Int) (0 : Int) a1)) 61 fun x12 =>
    appS 61 8 40 [.bool false, .int .i64 (0 : Int), .bool false, .int .u8 (0 : Int), .int .u8 (0 : Int), .int .u8 (0 : Int), .int .u8 (0 : Int), .string (ByteArray.mk #[])] x11 (Sl.mk (some x12) 1 1) fun x13 =>
    nn a0 fun x14 =>
    st (x14.add 16) (.slice x13.a x13.n x13.c) <|
    bnd (leg_Leg_move K a0) fun x15 =>
    ret true
set_option maxRecDepth 100000 in
theorem leg_Leg_Ping_ref (K : Nat) (a0 : Option Addr) (a1 : ByteArray) : Does Tryz.prog 26 [.pointer a0, .string a1] (leg_Leg_Ping K a0 a1) (fun r => .bool r) := by
  refine Does.of Tryz.func26 rfl rfl rfl ?_
  unfold leg_Leg_Ping
  refine RefC.seq ?_
  refine RefC.region ?_
  refine RefL.pure rfl rfl (RanP.assign rfl) ?_
  refine RefL.nil ?_
  refine RefE.next ?_
  refine RefC.seq ?_
  refine RefC.seq ?_
  refine RefC.region ?_
  refine RefL.pure rfl rfl (RanP.move rfl) ?_
  refine RefL.li rfl rfl (Lt.nn rfl fun x1 => ?_)
  refine RefL.pure rfl rfl (RanP.fieldAddr fa_109_8 rfl) ?_
  refine RefL.li rfl rfl (Lt.ldB Tryz.isAgg4 rfl fun x2 => ?_)
  refine RefL.pure rfl rfl (RanP.move rfl) ?_
  refine RefL.cut (enc := fun (x3 : Bool) => ([(14, .bool x3), (0, .pointer a0), (1, .string a1)] : Env)) 5 ?_ ?_
  · refine RefL.ite (s := 9) rfl ?_ ?_
    · refine RefL.skip rfl rfl ?_
      refine RefL.skip rfl rfl ?_
      refine RefL.skip rfl rfl ?_
      refine RefL.skip rfl rfl ?_
      refine RefL.pure rfl rfl (RanP.pickT rfl rfl) ?_
      refine RefL.nil ?_
      exact RefE.fin (s := true) ⟨rfl, rfl, rfl, trivial⟩
    · refine RefL.pure rfl rfl (RanP.move rfl) ?_
      refine RefL.li rfl rfl (Lt.nn rfl fun x4 => ?_)
      refine RefL.pure rfl rfl (RanP.fieldAddr fa_109_9 rfl) ?_
      refine RefL.li rfl rfl (Lt.ldB Tryz.isAgg4 rfl fun x5 => ?_)
      refine RefL.pure rfl rfl (RanP.pickF rfl rfl) ?_
      refine RefL.nil ?_
      exact RefE.fin (s := x5) ⟨rfl, rfl, rfl, trivial⟩
  · intro x3
    refine RefL.pure rfl rfl (RanP.move rfl) ?_
    refine RefL.cut (enc := fun (x6 : Bool) => ([(21, .bool x6), (0, .pointer a0), (1, .string a1)] : Env)) 6 ?_ ?_
    · refine RefL.ite (s := 15) rfl ?_ ?_
      · refine RefL.skip rfl rfl ?_
        refine RefL.skip rfl rfl ?_
        refine RefL.skip rfl rfl ?_
        refine RefL.skip rfl rfl ?_
        refine RefL.skip rfl rfl ?_
        refine RefL.pure rfl rfl (RanP.pickT rfl rfl) ?_
        refine RefL.nil ?_
        exact RefE.fin (s := true) ⟨rfl, rfl, rfl, trivial⟩
      · refine RefL.pure rfl rfl (RanP.move rfl) ?_
        refine RefL.li rfl rfl (Lt.nn rfl fun x7 => ?_)
        refine RefL.pure rfl rfl (RanP.fieldAddr fa_109_10 rfl) ?_
        refine RefL.li rfl rfl (Lt.ldI Tryz.isAgg31 rfl fun x8 => ?_)
        refine RefL.pure rfl rfl (RanP.neq rfl rfl) ?_
        refine RefL.pure rfl rfl (RanP.pickF rfl rfl) ?_
        refine RefL.nil ?_
        exact RefE.fin (s := (x8 != (0 : Int))) ⟨rfl, rfl, rfl, trivial⟩
    · intro x6
      refine RefL.pure rfl rfl (RanP.move rfl) ?_
      refine RefL.cut (enc := fun (x9 : Bool) => ([(26, .bool x9), (0, .pointer a0), (1, .string a1)] : Env)) 4 ?_ ?_
      · refine RefL.ite (s := 22) rfl ?_ ?_
        · refine RefL.skip rfl rfl ?_
          refine RefL.skip rfl rfl ?_
          refine RefL.skip rfl rfl ?_
          refine RefL.pure rfl rfl (RanP.pickT rfl rfl) ?_
          refine RefL.nil ?_
          exact RefE.fin (s := true) ⟨rfl, rfl, rfl, trivial⟩
        · refine RefL.pure rfl rfl (RanP.move rfl) ?_
          refine RefL.pure rfl rfl (RanP.lenS rfl Tryz.underlying9 rfl) ?_
          refine RefL.pure rfl rfl (RanP.gtr rfl rfl) ?_
          refine RefL.pure rfl rfl (RanP.pickF rfl rfl) ?_
          refine RefL.nil ?_
          exact RefE.fin (s := (decide ((125 : Int) < (a1.size : Int)))) ⟨rfl, rfl, rfl, trivial⟩
      · intro x9
        refine RefL.nil ?_
        refine RefE.next ?_
        refine RefC.cond rfl ?_ ?_
        · refine RefC.seq ?_
          refine RefC.region ?_
          refine RefL.pure rfl rfl (RanP.assign rfl) ?_
          refine RefL.nil ?_
          refine RefE.next ?_
          refine RefC.ret ?_
          refine RefE.thenRet ?_
          refine RefE.retV rfl ?_
          refine RefV.tmp rfl ?_
          exact RefV.nil rfl
        · refine RefC.skip ?_
          refine RefE.next ?_
          refine RefC.seq ?_
          refine RefC.region ?_
          refine RefL.pure rfl rfl (RanP.move rfl) ?_
          refine RefL.pure rfl rfl (RanP.move rfl) ?_
          refine RefL.li rfl rfl (Lt.nn rfl fun x10 => ?_)
          refine RefL.pure rfl rfl (RanP.fieldAddr fa_109_4 rfl) ?_
          refine RefL.li rfl rfl (Lt.ldSl Tryz.isAgg34 rfl fun x11 => ?_)
          refine RefL.pure rfl rfl (RanP.move rfl) ?_
          refine RefL.pure rfl rfl (RanP.build rfl (v := .agg (Agg.cells (Tapi_Frame.mk true (9 : Int) false (0 : Int) (0 : Int) (0 : Int) (0 : Int) a1)).toArray) (fun _ => by kernel_rfl)) ?_
          refine RefL.hv rfl rfl (Hv.buildSlice rfl (cs := (Agg.cells (Tapi_Frame.mk true (9 : Int) false (0 : Int) (0 : Int) (0 : Int) (0 : Int) a1))) (e := 61) (fun _ => by kernel_rfl) fun x12 => ?_)
          refine RefL.hv rfl rfl (Hv.appS (i := Tryz.t61) rfl Tryz.underlying34 Tryz.underlying34 rfl rfl rfl rfl fun x13 => ?_)
          refine RefL.li rfl rfl (Lt.nn rfl fun x14 => ?_)
          refine RefL.pure rfl rfl (RanP.fieldAddr fa_109_4 rfl) ?_
          refine RefL.hv rfl rfl (Hv.st Tryz.sizeOf34 rfl rfl rfl ?_)
          refine RefL.nil ?_
          refine RefE.next ?_
          refine RefC.seq ?_
          refine RefC.region ?_
          refine RefL.pure rfl rfl (RanP.move rfl) ?_
          refine RefL.hv rfl rfl (Hv.call (leg_Leg_move_ref K a0) Tryz.call75 rfl rfl rfl fun x15 => ?_)
          refine RefL.nil ?_
          refine RefE.next ?_
          refine RefC.seq ?_
          refine RefC.region ?_
          refine RefL.pure rfl rfl (RanP.assign rfl) ?_
          refine RefL.nil ?_
          refine RefE.next ?_
          refine RefC.ret ?_
          refine RefE.retV rfl ?_
          refine RefV.tmp rfl ?_
          exact RefV.nil rfl

def bridge_Bridge_tick (K : Nat) (a0 : Option Addr) (a1 : Int) (a2 : Int) : G (Unit) :=
  nn a0 fun x1 =>
  chk (0 ≤ a1 ∧ a1 < ((2 : Nat) : Int)) <|
  ldP (((x1.add 12).add (a1.toNat * 7)).add 0) fun x3 =>
  bnd (leg_Leg_Sent K x3) fun x4 =>
  if x4 = true then
    ldI .i64 (((x1.add 12).add (a1.toNat * 7)).add 6) fun x5 =>
    st (((x1.add 12).add (a1.toNat * 7)).add 6) (.int .i64 (IntKind.wrap .i64 (x5 + a2))) <|
    drw <|
    ldI .i64 (((x1.add 12).add (a1.toNat * 7)).add 6) fun x6 =>
    nn a0 fun x7 =>
    ldI .i64 ((x7.add 0).add 11) fun x8 =>
    st (((x1.add 12).add (a1.toNat * 7)).add 2) (.bool (decide (x8 < x6))) <|
    ret ()
  else
    ldI .i64 (((x1.add 12).add (a1.toNat * 7)).add 4) fun x9 =>
    st (((x1.add 12).add (a1.toNat * 7)).add 4) (.int .i64 (IntKind.wrap .i64 (x9 + a2))) <|
    bnd (
      drw <|
      ldB (((x1.add 12).add (a1.toNat * 7)).add 5) fun x15 =>
      if x15 = true then
        ldI .i64 (((x1.add 12).add (a1.toNat * 7)).add 4) fun x16 =>
        nn a0 fun x17 =>
        ldI .i64 ((x17.add 0).add 10) fun x18 =>
        lt (decide (x18 < x16)) fun x19 =>
        ret (x19)
      else
        ret (false)) fun (s20 : Bool) =>
    if s20 = true then
      bnd (bridge_Bridge_lose K a0 a1) fun x21 =>
      ret ()
    else
      bnd (
        drw <|
        ldB (((x1.add 12).add (a1.toNat * 7)).add 5) fun x27 =>
        if (!x27) = true then
          ldI .i64 (((x1.add 12).add (a1.toNat * 7)).add 4) fun x28 =>
          nn a0 fun x29 =>
          ldI .i64 ((x29.add 0).add 9) fun x30 =>
          lt (decide (x30 < x28)) fun x31 =>
          ret (x31)
        else
          ret (false)) fun (s32 : Bool) =>
      if s32 = true then
        st (((x1.add 12).add (a1.toNat * 7)).add 5) (.bool true) <|
        st (((x1.add 12).add (a1.toNat * 7)).add 4) (.int .i64 (0 : Int)) <|
        ldP (((x1.add 12).add (a1.toNat * 7)).add 0) fun x33 =>
        bnd (leg_Leg_Ping K x33 (ByteArray.mk #[])) fun x34 =>
        ret ()
      else
        ret ()
set_option maxRecDepth 100000 in
theorem bridge_Bridge_tick_ref (K : Nat) (a0 : Option Addr) (a1 : Int) (a2 : Int) : Does Tryz.prog 89 [.pointer a0, .int .i64 a1, .int .i64 a2] (bridge_Bridge_tick K a0 a1 a2) (fun _ => .tuple #[]) := by
  refine Does.of Tryz.func89 rfl rfl rfl ?_
  unfold bridge_Bridge_tick
  refine RefC.seq ?_
  refine RefC.region ?_
  refine RefL.pure rfl rfl (RanP.move rfl) ?_
  refine RefL.pure rfl rfl (RanP.move rfl) ?_
  refine RefL.li rfl rfl (Lt.nn rfl fun x1 => ?_)
  refine RefL.pure rfl rfl (RanP.fieldAddr fa_141_1 rfl) ?_
  refine RefL.chk fun h2 => ?_
  refine RefL.pure rfl rfl (RanP.ixArr (len := 2) h2 Tryz.underlying139 Tryz.sizeOf138 rfl rfl) ?_
  refine RefL.pure rfl rfl (RanP.assign rfl) ?_
  refine RefL.nil ?_
  refine RefE.next ?_
  refine RefC.seq ?_
  refine RefC.seq ?_
  refine RefC.region ?_
  refine RefL.pure rfl rfl (RanP.move rfl) ?_
  refine RefL.pure rfl rfl (RanP.nilCheck rfl) ?_
  refine RefL.pure rfl rfl (RanP.fieldAddr fa_138_0 rfl) ?_
  refine RefL.li rfl rfl (Lt.ldP Tryz.isAgg30 rfl fun x3 => ?_)
  refine RefL.hv rfl rfl (Hv.call (leg_Leg_Sent_ref K x3) Tryz.call32 rfl rfl rfl fun x4 => ?_)
  refine RefL.nil ?_
  refine RefE.next ?_
  refine RefC.cond rfl ?_ ?_
  · refine RefC.seq ?_
    refine RefC.region ?_
    refine RefL.pure rfl rfl (RanP.move rfl) ?_
    refine RefL.pure rfl rfl (RanP.nilCheck rfl) ?_
    refine RefL.pure rfl rfl (RanP.fieldAddr fa_138_6 rfl) ?_
    refine RefL.li rfl rfl (Lt.ldI Tryz.isAgg3 rfl fun x5 => ?_)
    refine RefL.pure rfl rfl (RanP.move rfl) ?_
    refine RefL.pure rfl rfl (RanP.add rfl rfl) ?_
    refine RefL.pure rfl rfl (RanP.nilCheck rfl) ?_
    refine RefL.pure rfl rfl (RanP.fieldAddr fa_138_6 rfl) ?_
    refine RefL.hv rfl rfl (Hv.st Tryz.sizeOf3 rfl rfl rfl ?_)
    refine RefL.nil ?_
    refine RefE.next ?_
    refine RefC.seq ?_
    refine RefC.draw mixed [0, 0, 2, 6, 14, 0, 32, 96, 224, 480, 1022, 2047, 4095, 8191] [.lp 0, .lp 1, .lp 2, .lp 3, .li 4, .lp 5, .lp 6, .lp 7, .lp 8, .li 9, .lp 10, .lp 11, .lp 12, .hv 13] (by kernel_rfl) ?_
    refine RefD.pure (at_ rfl) rfl (RanP.move rfl) ?_
    refine RefD.pure (at_ rfl) rfl (RanP.move rfl) ?_
    refine RefD.pure (at_ rfl) rfl (RanP.nilCheck rfl) ?_
    refine RefD.pure (at_ rfl) rfl (RanP.fieldAddr fa_138_6 rfl) ?_
    refine RefD.li0 (at_ rfl) rfl (Lt.ldI Tryz.isAgg3 rfl fun x6 => ?_)
    refine RefD.pure (at_ rfl) rfl (RanP.move rfl) ?_
    refine RefD.any (at_ rfl) rfl (Lt.nn rfl fun x7 => ?_)
    refine RefD.pure (at_ rfl) rfl (RanP.fieldAddr fa_141_0 rfl) ?_
    refine RefD.pure (at_ rfl) rfl (RanP.fieldAddr fa_25_11 rfl) ?_
    refine RefD.li0 (at_ rfl) rfl (Lt.ldI Tryz.isAgg3 rfl fun x8 => ?_)
    refine RefD.pure (at_ rfl) rfl (RanP.gtr rfl rfl) ?_
    refine RefD.pure (at_ rfl) rfl (RanP.nilCheck rfl) ?_
    refine RefD.pure (at_ rfl) rfl (RanP.fieldAddr fa_138_2 rfl) ?_
    refine RefD.hv (at_ rfl) rfl (Hv.st Tryz.sizeOf4 rfl rfl rfl ?_)
    refine RefD.nil ?_
    refine RefE.next ?_
    refine RefC.ret ?_
    refine RefE.thenRet ?_
    refine RefE.retV rfl ?_
    exact RefV.nil rfl
  · refine RefC.skip ?_
    refine RefE.next ?_
    refine RefC.seq ?_
    refine RefC.region ?_
    refine RefL.pure rfl rfl (RanP.move rfl) ?_
    refine RefL.pure rfl rfl (RanP.nilCheck rfl) ?_
    refine RefL.pure rfl rfl (RanP.fieldAddr fa_138_4 rfl) ?_
    refine RefL.li rfl rfl (Lt.ldI Tryz.isAgg3 rfl fun x9 => ?_)
    refine RefL.pure rfl rfl (RanP.move rfl) ?_
    refine RefL.pure rfl rfl (RanP.add rfl rfl) ?_
    refine RefL.pure rfl rfl (RanP.nilCheck rfl) ?_
    refine RefL.pure rfl rfl (RanP.fieldAddr fa_138_4 rfl) ?_
    refine RefL.hv rfl rfl (Hv.st Tryz.sizeOf3 rfl rfl rfl ?_)
    refine RefL.nil ?_
    refine RefE.next ?_
    refine RefC.block ?_
    refine RefC.seq ?_
    refine RefC.cut (enc := fun (s20 : Bool) => ([(46, .bool s20), (0, .pointer a0), (1, .int .i64 a1), (6, .pointer (some ((x1.add 12).add (a1.toNat * 7))))] : Env)) ?_ ?_
    · refine RefC.draw mixed [0, 1, 3, 7, 15, 31, 63, 127, 255, 31, 543, 1567, 3615, 7711, 16383, 32767, 65535] [.lp 0, .lp 1, .lp 2, .li 3, .lp 4, .lp 5, .lp 6, .lp 7, .li 8, .lp 9, .lp 10, .lp 11, .lp 12, .li 13, .lp 14, .lp 15, .lp 16] (by kernel_rfl) ?_
      refine RefD.pure (at_ rfl) rfl (RanP.move rfl) ?_
      refine RefD.pure (at_ rfl) rfl (RanP.nilCheck rfl) ?_
      refine RefD.pure (at_ rfl) rfl (RanP.fieldAddr fa_138_5 rfl) ?_
      refine RefD.li0 (at_ rfl) rfl (Lt.ldB Tryz.isAgg4 rfl fun x15 => ?_)
      refine RefD.pure (at_ rfl) rfl (RanP.move rfl) ?_
      refine RefD.ite (s := 51) rfl ?_ ?_
      · refine RefD.pure (at_ rfl) rfl (RanP.move rfl) ?_
        refine RefD.pure (at_ rfl) rfl (RanP.nilCheck rfl) ?_
        refine RefD.pure (at_ rfl) rfl (RanP.fieldAddr fa_138_4 rfl) ?_
        refine RefD.li0 (at_ rfl) rfl (Lt.ldI Tryz.isAgg3 rfl fun x16 => ?_)
        refine RefD.pure (at_ rfl) rfl (RanP.move rfl) ?_
        refine RefD.any (at_ rfl) rfl (Lt.nn rfl fun x17 => ?_)
        refine RefD.pure (at_ rfl) rfl (RanP.fieldAddr fa_141_0 rfl) ?_
        refine RefD.pure (at_ rfl) rfl (RanP.fieldAddr fa_25_10 rfl) ?_
        refine RefD.li0 (at_ rfl) rfl (Lt.ldI Tryz.isAgg3 rfl fun x18 => ?_)
        refine RefD.pure (at_ rfl) rfl (RanP.gtr rfl rfl) ?_
        refine RefD.pure (at_ rfl) rfl (RanP.pickT rfl rfl) ?_
        refine RefD.pure (at_ rfl) rfl (RanP.assign rfl) ?_
        refine RefD.lt 46 (fun y => .bool y) rfl fun x19 => ?_
        refine RefD.nil ?_
        exact RefE.fin (s := (x19)) ⟨rfl, rfl, rfl, rfl, trivial⟩
      · refine RefD.skipP (at_ rfl) rfl ?_
        refine RefD.skipP (at_ rfl) rfl ?_
        refine RefD.skipP (at_ rfl) rfl ?_
        refine RefD.skipI (at_ rfl) rfl ?_
        refine RefD.skipP (at_ rfl) rfl ?_
        refine RefD.skipP (at_ rfl) rfl ?_
        refine RefD.skipP (at_ rfl) rfl ?_
        refine RefD.skipP (at_ rfl) rfl ?_
        refine RefD.skipI (at_ rfl) rfl ?_
        refine RefD.skipP (at_ rfl) rfl ?_
        refine RefD.pure (at_ rfl) rfl (RanP.pickF rfl rfl) ?_
        refine RefD.pure (at_ rfl) rfl (RanP.assign rfl) ?_
        refine RefD.nil ?_
        exact RefE.fin (s := (false)) ⟨rfl, rfl, rfl, rfl, trivial⟩
    · intro s20
      refine RefE.next ?_
      refine RefC.cond rfl ?_ ?_
      · refine RefC.region ?_
        refine RefL.pure rfl rfl (RanP.move rfl) ?_
        refine RefL.pure rfl rfl (RanP.move rfl) ?_
        refine RefL.hv rfl rfl (Hv.call (bridge_Bridge_lose_ref K a0 a1) Tryz.call90 rfl rfl rfl fun x21 => ?_)
        refine RefL.nil ?_
        refine RefE.blockNormal ?_
        refine RefE.endV rfl ?_
        exact RefV.nil rfl
      · refine RefC.seq ?_
        refine RefC.cut (enc := fun (s32 : Bool) => ([(66, .bool s32), (6, .pointer (some ((x1.add 12).add (a1.toNat * 7))))] : Env)) ?_ ?_
        · refine RefC.draw mixed [0, 1, 3, 7, 15, 31, 63, 127, 255, 511, 63, 1087, 3135, 7231, 15423, 32767, 65535, 131071] [.lp 0, .lp 1, .lp 2, .li 3, .lp 4, .lp 5, .lp 6, .lp 7, .lp 8, .li 9, .lp 10, .lp 11, .lp 12, .lp 13, .li 14, .lp 15, .lp 16, .lp 17] (by kernel_rfl) ?_
          refine RefD.pure (at_ rfl) rfl (RanP.move rfl) ?_
          refine RefD.pure (at_ rfl) rfl (RanP.nilCheck rfl) ?_
          refine RefD.pure (at_ rfl) rfl (RanP.fieldAddr fa_138_5 rfl) ?_
          refine RefD.li0 (at_ rfl) rfl (Lt.ldB Tryz.isAgg4 rfl fun x27 => ?_)
          refine RefD.pure (at_ rfl) rfl (RanP.not rfl) ?_
          refine RefD.pure (at_ rfl) rfl (RanP.move rfl) ?_
          refine RefD.ite (s := 72) rfl ?_ ?_
          · refine RefD.pure (at_ rfl) rfl (RanP.move rfl) ?_
            refine RefD.pure (at_ rfl) rfl (RanP.nilCheck rfl) ?_
            refine RefD.pure (at_ rfl) rfl (RanP.fieldAddr fa_138_4 rfl) ?_
            refine RefD.li0 (at_ rfl) rfl (Lt.ldI Tryz.isAgg3 rfl fun x28 => ?_)
            refine RefD.pure (at_ rfl) rfl (RanP.move rfl) ?_
            refine RefD.any (at_ rfl) rfl (Lt.nn rfl fun x29 => ?_)
            refine RefD.pure (at_ rfl) rfl (RanP.fieldAddr fa_141_0 rfl) ?_
            refine RefD.pure (at_ rfl) rfl (RanP.fieldAddr fa_25_9 rfl) ?_
            refine RefD.li0 (at_ rfl) rfl (Lt.ldI Tryz.isAgg3 rfl fun x30 => ?_)
            refine RefD.pure (at_ rfl) rfl (RanP.gtr rfl rfl) ?_
            refine RefD.pure (at_ rfl) rfl (RanP.pickT rfl rfl) ?_
            refine RefD.pure (at_ rfl) rfl (RanP.assign rfl) ?_
            refine RefD.lt 66 (fun y => .bool y) rfl fun x31 => ?_
            refine RefD.nil ?_
            exact RefE.fin (s := (x31)) ⟨rfl, rfl, trivial⟩
          · refine RefD.skipP (at_ rfl) rfl ?_
            refine RefD.skipP (at_ rfl) rfl ?_
            refine RefD.skipP (at_ rfl) rfl ?_
            refine RefD.skipI (at_ rfl) rfl ?_
            refine RefD.skipP (at_ rfl) rfl ?_
            refine RefD.skipP (at_ rfl) rfl ?_
            refine RefD.skipP (at_ rfl) rfl ?_
            refine RefD.skipP (at_ rfl) rfl ?_
            refine RefD.skipI (at_ rfl) rfl ?_
            refine RefD.skipP (at_ rfl) rfl ?_
            refine RefD.pure (at_ rfl) rfl (RanP.pickF rfl rfl) ?_
            refine RefD.pure (at_ rfl) rfl (RanP.assign rfl) ?_
            refine RefD.nil ?_
            exact RefE.fin (s := (false)) ⟨rfl, rfl, trivial⟩
        · intro s32
          refine RefE.next ?_
          refine RefC.cond rfl ?_ ?_
          · refine RefC.seq ?_
            refine RefC.region ?_
            refine RefL.pure rfl rfl (RanP.move rfl) ?_
            refine RefL.pure rfl rfl (RanP.move rfl) ?_
            refine RefL.pure rfl rfl (RanP.nilCheck rfl) ?_
            refine RefL.pure rfl rfl (RanP.fieldAddr fa_138_5 rfl) ?_
            refine RefL.hv rfl rfl (Hv.st Tryz.sizeOf4 rfl rfl rfl ?_)
            refine RefL.pure rfl rfl (RanP.nilCheck rfl) ?_
            refine RefL.pure rfl rfl (RanP.fieldAddr fa_138_4 rfl) ?_
            refine RefL.hv rfl rfl (Hv.st Tryz.sizeOf3 rfl rfl rfl ?_)
            refine RefL.nil ?_
            refine RefE.next ?_
            refine RefC.region ?_
            refine RefL.pure rfl rfl (RanP.move rfl) ?_
            refine RefL.pure rfl rfl (RanP.nilCheck rfl) ?_
            refine RefL.pure rfl rfl (RanP.fieldAddr fa_138_0 rfl) ?_
            refine RefL.li rfl rfl (Lt.ldP Tryz.isAgg30 rfl fun x33 => ?_)
            refine RefL.hv rfl rfl (Hv.call (leg_Leg_Ping_ref K x33 (ByteArray.mk #[])) Tryz.call26 rfl rfl rfl fun x34 => ?_)
            refine RefL.nil ?_
            refine RefE.blockNormal ?_
            refine RefE.endV rfl ?_
            exact RefV.nil rfl
          · refine RefC.skip ?_
            refine RefE.blockNormal ?_
            refine RefE.endV rfl ?_
            exact RefV.nil rfl

def bridge_Bridge_Tick_l0 (K : Nat) (a0 : Option Addr) (a1 : Int) (again : Int → G (Unit)) (s22 : Int) : G (Unit) :=
  if (decide (s22 < (2 : Int))) = true then
    nn a0 fun x23 =>
    chk (0 ≤ s22 ∧ s22 < ((2 : Nat) : Int)) <|
    ldB (((x23.add 12).add (s22.toNat * 7)).add 2) fun x25 =>
    bnd (
      if (!x25) = true then
        bnd (bridge_Bridge_tick K a0 s22 (if (1073741824 : Int) < (if a1 < (0 : Int) then (0 : Int) else a1) then (1073741824 : Int) else (if a1 < (0 : Int) then (0 : Int) else a1))) fun x27 =>
        ret ()
      else
        ret ()) fun (s28 : Unit) =>
    again ((IntKind.wrap .i64 (s22 + (1 : Int))))
  else
    ret ()
def bridge_Bridge_Tick (K : Nat) (a0 : Option Addr) (a1 : Int) : G (Unit) :=
  bnd (
    loopG (bridge_Bridge_Tick_l0 K a0 a1) K ((0 : Int))) fun (s29 : Unit) =>
  bnd (bridge_Bridge_settle K a0) fun x30 =>
  ret ()
set_option maxRecDepth 100000 in
theorem bridge_Bridge_Tick_ref (K : Nat) (a0 : Option Addr) (a1 : Int) : Does Tryz.prog 46 [.pointer a0, .int .i64 a1] (bridge_Bridge_Tick K a0 a1) (fun _ => .tuple #[]) := by
  refine Does.of Tryz.func46 rfl rfl rfl ?_
  unfold bridge_Bridge_Tick
  refine RefC.seq ?_
  refine RefC.seq ?_
  refine RefC.region ?_
  refine RefL.pure rfl rfl (RanP.move rfl) ?_
  refine RefL.nil ?_
  refine RefE.next ?_
  refine RefC.cut (enc := fun (s29 : Unit) => ([(0, .pointer a0)] : Env)) ?_ ?_
  · refine RefC.block ?_
    refine RefC.loopW (enc := fun (s22 : Int) => ([(5, .int .i64 s22), (0, .pointer a0), (1, .int .i64 a1)] : Env)) ⟨rfl, rfl, rfl, trivial⟩ ?_ _
    intro again k ih s22
    unfold bridge_Bridge_Tick_l0
    refine RefC.seq ?_
    refine RefC.region ?_
    refine RefL.pure rfl rfl (RanP.lss rfl rfl) ?_
    refine RefL.nil ?_
    refine RefE.next ?_
    refine RefC.seq ?_
    refine RefC.cond rfl ?_ ?_
    · refine RefC.skip ?_
      refine RefE.next ?_
      refine RefC.seq ?_
      refine RefC.block ?_
      refine RefC.seq ?_
      refine RefC.region ?_
      refine RefL.pure rfl rfl (RanP.move rfl) ?_
      refine RefL.pure rfl rfl (RanP.assign rfl) ?_
      refine RefL.nil ?_
      refine RefE.next ?_
      refine RefC.seq ?_
      refine RefC.region ?_
      refine RefL.pure rfl rfl (RanP.move rfl) ?_
      refine RefL.pure rfl rfl (RanP.move rfl) ?_
      refine RefL.li rfl rfl (Lt.nn rfl fun x23 => ?_)
      refine RefL.pure rfl rfl (RanP.fieldAddr fa_141_1 rfl) ?_
      refine RefL.chk fun h24 => ?_
      refine RefL.pure rfl rfl (RanP.ixArr (len := 2) h24 Tryz.underlying139 Tryz.sizeOf138 rfl rfl) ?_
      refine RefL.pure rfl rfl (RanP.fieldAddr fa_138_2 rfl) ?_
      refine RefL.li rfl rfl (Lt.ldB Tryz.isAgg4 rfl fun x25 => ?_)
      refine RefL.pure rfl rfl (RanP.not rfl) ?_
      refine RefL.nil ?_
      refine RefE.next ?_
      refine RefC.cut (enc := fun (s28 : Unit) => ([(0, .pointer a0), (1, .int .i64 a1), (5, .int .i64 s22)] : Env)) ?_ ?_
      · refine RefC.cond rfl ?_ ?_
        · refine RefC.region ?_
          refine RefL.pure rfl rfl (RanP.move rfl) ?_
          refine RefL.pure rfl rfl (RanP.move rfl) ?_
          refine RefL.pure rfl rfl (RanP.move rfl) ?_
          refine RefL.pure rfl rfl (RanP.max2 rfl) ?_
          refine RefL.pure rfl rfl (RanP.min2 rfl) ?_
          refine RefL.hv rfl rfl (Hv.call (bridge_Bridge_tick_ref K a0 s22 (if (1073741824 : Int) < (if a1 < (0 : Int) then (0 : Int) else a1) then (1073741824 : Int) else (if a1 < (0 : Int) then (0 : Int) else a1))) Tryz.call89 rfl rfl rfl fun x27 => ?_)
          refine RefL.nil ?_
          exact RefE.fin (s := ()) ⟨rfl, rfl, rfl, trivial⟩
        · refine RefC.skip ?_
          exact RefE.fin (s := ()) ⟨rfl, rfl, rfl, trivial⟩
      · intro s28
        refine RefE.blockNormal ?_
        refine RefE.next ?_
        refine RefC.region ?_
        refine RefL.pure rfl rfl (RanP.add rfl rfl) ?_
        refine RefL.pure rfl rfl (RanP.move rfl) ?_
        refine RefL.nil ?_
        exact RefE.again (ih ((IntKind.wrap .i64 (s22 + (1 : Int))))) ⟨rfl, rfl, rfl, trivial⟩
    · refine RefC.exit ?_
      refine RefE.thenExit ?_
      refine RefE.roundExit ?_
      refine RefE.blockExit ?_
      exact RefE.fin (s := ()) ⟨rfl, trivial⟩
  · intro s29
    refine RefE.next ?_
    refine RefC.region ?_
    refine RefL.pure rfl rfl (RanP.move rfl) ?_
    refine RefL.hv rfl rfl (Hv.call (bridge_Bridge_settle_ref K a0) Tryz.call87 rfl rfl rfl fun x30 => ?_)
    refine RefL.nil ?_
    refine RefE.endV rfl ?_
    exact RefV.nil rfl

def bridge_Bridge_Lose (K : Nat) (a0 : Option Addr) (a1 : Int) : G (Unit) :=
  bnd (bridge_has K a1) fun x1 =>
  if x1 = true then
    bnd (bridge_Bridge_lose K a0 a1) fun x2 =>
    bnd (bridge_Bridge_settle K a0) fun x3 =>
    ret ()
  else
    ret ()
set_option maxRecDepth 100000 in
theorem bridge_Bridge_Lose_ref (K : Nat) (a0 : Option Addr) (a1 : Int) : Does Tryz.prog 49 [.pointer a0, .int .i64 a1] (bridge_Bridge_Lose K a0 a1) (fun _ => .tuple #[]) := by
  refine Does.of Tryz.func49 rfl rfl rfl ?_
  unfold bridge_Bridge_Lose
  refine RefC.seq ?_
  refine RefC.region ?_
  refine RefL.pure rfl rfl (RanP.move rfl) ?_
  refine RefL.hv rfl rfl (Hv.call (bridge_has_ref K a1) Tryz.call83 rfl rfl rfl fun x1 => ?_)
  refine RefL.nil ?_
  refine RefE.next ?_
  refine RefC.cond rfl ?_ ?_
  · refine RefC.seq ?_
    refine RefC.region ?_
    refine RefL.pure rfl rfl (RanP.move rfl) ?_
    refine RefL.pure rfl rfl (RanP.move rfl) ?_
    refine RefL.hv rfl rfl (Hv.call (bridge_Bridge_lose_ref K a0 a1) Tryz.call90 rfl rfl rfl fun x2 => ?_)
    refine RefL.nil ?_
    refine RefE.next ?_
    refine RefC.region ?_
    refine RefL.pure rfl rfl (RanP.move rfl) ?_
    refine RefL.hv rfl rfl (Hv.call (bridge_Bridge_settle_ref K a0) Tryz.call87 rfl rfl rfl fun x3 => ?_)
    refine RefL.nil ?_
    refine RefE.endV rfl ?_
    exact RefV.nil rfl
  · refine RefC.skip ?_
    refine RefE.endV rfl ?_
    exact RefV.nil rfl

def law17_play (K : Nat) (a0 : Option Addr) (a1 : Tref17_Act) : G (Unit) :=
  new (Agg.cells a1) 90 fun x1 =>
  ldI .i64 (x1.add 0) fun x2 =>
  lt (x2 == (0 : Int)) fun x3 =>
  if x3 = true then
    ldI .i64 (x1.add 1) fun x4 =>
    ldS (x1.add 3) fun x5 =>
    bytesOf 5 x5 fun x6 =>
    bnd (bridge_Bridge_Feed K a0 x4 x6) fun x7 =>
    ret ()
  else
    lt (x2 == (1 : Int)) fun x8 =>
    if x8 = true then
      ldI .i64 (x1.add 1) fun x9 =>
      ldI .i64 (x1.add 2) fun x10 =>
      bnd (bridge_Bridge_Take K a0 x9 x10) fun x11 =>
      ret ()
    else
      lt (x2 == (2 : Int)) fun x12 =>
      if x12 = true then
        ldI .i64 (x1.add 2) fun x13 =>
        bnd (bridge_Bridge_Tick K a0 x13) fun x14 =>
        ret ()
      else
        lt (x2 == (3 : Int)) fun x15 =>
        if x15 = true then
          ldI .i64 (x1.add 1) fun x16 =>
          bnd (bridge_Bridge_Lose K a0 x16) fun x17 =>
          ret ()
        else
          ret ()
set_option maxRecDepth 100000 in
theorem law17_play_ref (K : Nat) (a0 : Option Addr) (a1 : Tref17_Act) : Does Tryz.prog 51 [.pointer a0, .agg (Agg.cells a1).toArray] (law17_play K a0 a1) (fun _ => .tuple #[]) := by
  refine Does.of Tryz.func51 rfl rfl rfl ?_
  unfold law17_play
  refine RefC.seq ?_
  refine RefC.region ?_
  refine RefL.hv rfl rfl (Hv.box rfl rfl fun x1 => ?_)
  refine RefL.nil ?_
  refine RefE.next ?_
  refine RefC.seq ?_
  refine RefC.region ?_
  refine RefL.pure rfl rfl (RanP.fieldAddr fa_90_0 rfl) ?_
  refine RefL.li rfl rfl (Lt.ldI Tryz.isAgg3 rfl fun x2 => ?_)
  refine RefL.nil ?_
  refine RefE.next ?_
  refine RefC.block ?_
  refine RefC.seq ?_
  refine RefC.region ?_
  refine RefL.pure rfl rfl (RanP.eql rfl rfl) ?_
  refine RefL.pure rfl rfl (RanP.assign rfl) ?_
  refine RefL.lt 6 (fun y => .bool y) rfl fun x3 => ?_
  refine RefL.nil ?_
  refine RefE.next ?_
  refine RefC.cond rfl ?_ ?_
  · refine RefC.region ?_
    refine RefL.pure rfl rfl (RanP.move rfl) ?_
    refine RefL.pure rfl rfl (RanP.fieldAddr fa_90_1 rfl) ?_
    refine RefL.li rfl rfl (Lt.ldI Tryz.isAgg3 rfl fun x4 => ?_)
    refine RefL.pure rfl rfl (RanP.fieldAddr fa_90_3 rfl) ?_
    refine RefL.li rfl rfl (Lt.ldS Tryz.isAgg9 rfl fun x5 => ?_)
    refine RefL.hv rfl rfl (Hv.bytesOf Tryz.underlying9 Tryz.underlying49 Tryz.underlying5 rfl fun x6 => ?_)
    refine RefL.hv rfl rfl (Hv.call (bridge_Bridge_Feed_ref K a0 x4 x6) Tryz.call41 rfl rfl rfl fun x7 => ?_)
    refine RefL.nil ?_
    refine RefE.blockNormal ?_
    refine RefE.endV rfl ?_
    exact RefV.nil rfl
  · refine RefC.seq ?_
    refine RefC.region ?_
    refine RefL.pure rfl rfl (RanP.eql rfl rfl) ?_
    refine RefL.pure rfl rfl (RanP.assign rfl) ?_
    refine RefL.lt 15 (fun y => .bool y) rfl fun x8 => ?_
    refine RefL.nil ?_
    refine RefE.next ?_
    refine RefC.cond rfl ?_ ?_
    · refine RefC.region ?_
      refine RefL.pure rfl rfl (RanP.move rfl) ?_
      refine RefL.pure rfl rfl (RanP.fieldAddr fa_90_1 rfl) ?_
      refine RefL.li rfl rfl (Lt.ldI Tryz.isAgg3 rfl fun x9 => ?_)
      refine RefL.pure rfl rfl (RanP.fieldAddr fa_90_2 rfl) ?_
      refine RefL.li rfl rfl (Lt.ldI Tryz.isAgg3 rfl fun x10 => ?_)
      refine RefL.hv rfl rfl (Hv.call (bridge_Bridge_Take_ref K a0 x9 x10) Tryz.call42 rfl rfl rfl fun x11 => ?_)
      refine RefL.nil ?_
      refine RefE.blockNormal ?_
      refine RefE.endV rfl ?_
      exact RefV.nil rfl
    · refine RefC.seq ?_
      refine RefC.region ?_
      refine RefL.pure rfl rfl (RanP.eql rfl rfl) ?_
      refine RefL.pure rfl rfl (RanP.assign rfl) ?_
      refine RefL.lt 23 (fun y => .bool y) rfl fun x12 => ?_
      refine RefL.nil ?_
      refine RefE.next ?_
      refine RefC.cond rfl ?_ ?_
      · refine RefC.region ?_
        refine RefL.pure rfl rfl (RanP.move rfl) ?_
        refine RefL.pure rfl rfl (RanP.fieldAddr fa_90_2 rfl) ?_
        refine RefL.li rfl rfl (Lt.ldI Tryz.isAgg3 rfl fun x13 => ?_)
        refine RefL.hv rfl rfl (Hv.call (bridge_Bridge_Tick_ref K a0 x13) Tryz.call46 rfl rfl rfl fun x14 => ?_)
        refine RefL.nil ?_
        refine RefE.blockNormal ?_
        refine RefE.endV rfl ?_
        exact RefV.nil rfl
      · refine RefC.seq ?_
        refine RefC.region ?_
        refine RefL.pure rfl rfl (RanP.eql rfl rfl) ?_
        refine RefL.pure rfl rfl (RanP.assign rfl) ?_
        refine RefL.lt 29 (fun y => .bool y) rfl fun x15 => ?_
        refine RefL.nil ?_
        refine RefE.next ?_
        refine RefC.cond rfl ?_ ?_
        · refine RefC.region ?_
          refine RefL.pure rfl rfl (RanP.move rfl) ?_
          refine RefL.pure rfl rfl (RanP.fieldAddr fa_90_1 rfl) ?_
          refine RefL.li rfl rfl (Lt.ldI Tryz.isAgg3 rfl fun x16 => ?_)
          refine RefL.hv rfl rfl (Hv.call (bridge_Bridge_Lose_ref K a0 x16) Tryz.call49 rfl rfl rfl fun x17 => ?_)
          refine RefL.nil ?_
          refine RefE.blockNormal ?_
          refine RefE.endV rfl ?_
          exact RefV.nil rfl
        · refine RefC.skip ?_
          refine RefE.blockNormal ?_
          refine RefE.endV rfl ?_
          exact RefV.nil rfl

def law17_BridgeEnds_l0 (K : Nat) (a2 : Sl) (x6 : Option Addr × Int) (again : Int → G (Unit)) (s49 : Int) : G (Unit) :=
  bnd (
    if (decide (s49 < (a2.n : Int))) = true then
      ret (decide (s49 < (20 : Int)))
    else
      ret false) fun (x50 : Bool) =>
  if x50 = true then
    ixA a2 s49 4 fun x51 =>
    ldG (α := Tref17_Act) x51 fun x52 =>
    new [.int .i64 (0 : Int), .int .i64 (0 : Int), .int .i64 (0 : Int), .string (ByteArray.mk #[])] 90 fun x53 =>
    st x53 (.agg (Agg.cells x52).toArray) <|
    ldG (α := Tref17_Act) x53 fun x54 =>
    bnd (law17_few K x54) fun x55 =>
    bnd (
      if x55 = true then
        ldG (α := Tref17_Act) x53 fun x58 =>
        bnd (law17_play K x6.1 x58) fun x59 =>
        ret ()
      else
        ret ()) fun (s60 : Unit) =>
    lt (IntKind.wrap .i64 (s49 + (1 : Int))) fun x61 =>
    again (x61)
  else
    ret ()
def law17_BridgeEnds_l1 (K : Nat) (x6 : Option Addr × Int) (s829 : Int) (again : Int → G (Unit)) (s845 : Int) : G (Unit) :=
  bnd (
    if (decide (s845 < (2000 : Int))) = true then
      bnd (bridge_Bridge_Peek K x6.1 s829 (1 : Int)) fun x847 =>
      ret (decide ((0 : Int) < (x847.n : Int)))
    else
      ret false) fun (x846 : Bool) =>
  if x846 = true then
    bnd (bridge_Bridge_Take K x6.1 s829 (1000 : Int)) fun x848 =>
    lt (IntKind.wrap .i64 (s845 + (1 : Int))) fun x849 =>
    again (x849)
  else
    ret ()
def law17_BridgeEnds_l2 (K : Nat) (x6 : Option Addr × Int) (again : Int → G (Unit)) (s829 : Int) : G (Unit) :=
  if (decide (s829 < (2 : Int))) = true then
    bnd (
      loopG (law17_BridgeEnds_l1 K x6 s829) K ((0 : Int))) fun (s850 : Unit) =>
    lt (IntKind.wrap .i64 (s829 + (1 : Int))) fun x851 =>
    again (x851)
  else
    ret ()
def law17_BridgeEnds_l3 (K : Nat) (x6 : Option Addr × Int) (x4 : Addr) (again : Int → G (Unit)) (s660 : Int) : G (Unit) :=
  bnd (
    if (decide (s660 < (10 : Int))) = true then
      bnd (bridge_Bridge_Over K x6.1) fun x662 =>
      ret (!x662)
    else
      ret false) fun (x661 : Bool) =>
  if x661 = true then
    bnd (
      bnd (
        loopG (law17_BridgeEnds_l2 K x6) K ((0 : Int))) fun (s852 : Unit) =>
      ldI .i64 (x4.add 9) fun x853 =>
      ldI .i64 (x4.add 10) fun x854 =>
      ldI .i64 (x4.add 11) fun x855 =>
      bnd (bridge_Bridge_Tick K x6.1 (IntKind.wrap .i64 ((IntKind.wrap .i64 ((IntKind.wrap .i64 (x853 + x854)) + x855)) + (1 : Int)))) fun x856 =>
      ret ()) fun (s857 : Unit) =>
    lt (IntKind.wrap .i64 (s660 + (1 : Int))) fun x858 =>
    again (x858)
  else
    ret ()
def law17_BridgeEnds (K : Nat) (a0 : A5u8) (a1 : Int) (a2 : Sl) : G (Bool) :=
  new (Agg.cells a0) 65 fun x1 =>
  ldG (α := A5u8) x1 fun x2 =>
  bnd (law17_Config K x2) fun x3 =>
  new [.slice Sl.nil.a Sl.nil.n Sl.nil.c, .slice Sl.nil.a Sl.nil.n Sl.nil.c, .int .i64 (0 : Int), .int .i64 (0 : Int), .int .i64 (0 : Int), .int .i64 (0 : Int), .int .i64 (0 : Int), .int .i64 (0 : Int), .int .i64 (0 : Int), .int .i64 (0 : Int), .int .i64 (0 : Int), .int .i64 (0 : Int)] 25 fun x4 =>
  st x4 (.agg (Agg.cells x3).toArray) <|
  ldG (α := Tapi_Config) x4 fun x5 =>
  bnd (bridge_New K x5 a1) fun x6 =>
  bnd (law17_awake K) fun x7 =>
  bnd (
    if (!x7) = true then
      ret true
    else
      ret (x6.2 != (0 : Int))) fun (x8 : Bool) =>
  bnd (
    if x8 = true then
      ret true
    else
      ret (Option.isNone x6.1)) fun (x9 : Bool) =>
  if x9 = true then
    ret false
  else
    bnd (
      loopG (law17_BridgeEnds_l0 K a2 x6) K ((0 : Int))) fun (s62 : Unit) =>
    bnd (
      loopG (law17_BridgeEnds_l3 K x6 x4) K ((0 : Int))) fun (s859 : Unit) =>
    bnd (bridge_Bridge_Over K x6.1) fun x860 =>
    ret x860
set_option maxRecDepth 100000 in
theorem law17_BridgeEnds_ref (K : Nat) (a0 : A5u8) (a1 : Int) (a2 : Sl) : Does Tryz.prog 13 [.agg (Agg.cells a0).toArray, .int .u32 a1, .slice a2.a a2.n a2.c] (law17_BridgeEnds K a0 a1 a2) (fun r => .bool r) := by
  refine Does.of Tryz.func13 rfl rfl rfl ?_
  unfold law17_BridgeEnds
  refine RefC.seq ?_
  refine RefC.region ?_
  refine RefL.hv rfl rfl (Hv.box rfl rfl fun x1 => ?_)
  refine RefL.pure rfl rfl (RanP.assign rfl) ?_
  refine RefL.nil ?_
  refine RefE.next ?_
  refine RefC.seq ?_
  refine RefC.region ?_
  refine RefL.li rfl rfl (Lt.ldG (τ := A5u8) Tryz.isAgg65 Tryz.sizeOf65 rfl fun x2 => ?_)
  refine RefL.hv rfl rfl (Hv.call (law17_Config_ref K x2) Tryz.call36 rfl rfl rfl fun x3 => ?_)
  refine RefL.hv rfl rfl (Hv.newZ Tryz.zeroValue25 rfl fun x4 => ?_)
  refine RefL.hv rfl rfl (Hv.st Tryz.sizeOf25 rfl rfl rfl ?_)
  refine RefL.nil ?_
  refine RefE.next ?_
  refine RefC.seq ?_
  refine RefC.region ?_
  refine RefL.li rfl rfl (Lt.ldG (τ := Tapi_Config) Tryz.isAgg25 Tryz.sizeOf25 rfl fun x5 => ?_)
  refine RefL.pure rfl rfl (RanP.move rfl) ?_
  refine RefL.hv rfl rfl (Hv.call (bridge_New_ref K x5 a1) Tryz.call37 rfl rfl rfl fun x6 => ?_)
  refine RefL.pure rfl rfl (RanP.move rfl) ?_
  refine RefL.pure rfl rfl (RanP.extract rfl rfl) ?_
  refine RefL.pure rfl rfl (RanP.extract rfl rfl) ?_
  refine RefL.pure rfl rfl (RanP.assign rfl) ?_
  refine RefL.pure rfl rfl (RanP.assign rfl) ?_
  refine RefL.nil ?_
  refine RefE.next ?_
  refine RefC.seq ?_
  refine RefC.seq ?_
  refine RefC.region ?_
  refine RefL.hv rfl rfl (Hv.call (law17_awake_ref K) Tryz.call38 rfl rfl rfl fun x7 => ?_)
  refine RefL.pure rfl rfl (RanP.not rfl) ?_
  refine RefL.pure rfl rfl (RanP.move rfl) ?_
  refine RefL.cut (enc := fun (x8 : Bool) => ([(28, .bool x8), (2, .slice a2.a a2.n a2.c), (7, .pointer (some x4)), (8, .pointer x6.1)] : Env)) 3 ?_ ?_
  · refine RefL.ite (s := 25) rfl ?_ ?_
    · refine RefL.skip rfl rfl ?_
      refine RefL.skip rfl rfl ?_
      refine RefL.pure rfl rfl (RanP.pickT rfl rfl) ?_
      refine RefL.nil ?_
      exact RefE.fin (s := true) ⟨rfl, rfl, rfl, rfl, trivial⟩
    · refine RefL.pure rfl rfl (RanP.move rfl) ?_
      refine RefL.pure rfl rfl (RanP.neq rfl rfl) ?_
      refine RefL.pure rfl rfl (RanP.pickF rfl rfl) ?_
      refine RefL.nil ?_
      exact RefE.fin (s := (x6.2 != (0 : Int))) ⟨rfl, rfl, rfl, rfl, trivial⟩
  · intro x8
    refine RefL.pure rfl rfl (RanP.move rfl) ?_
    refine RefL.cut (enc := fun (x9 : Bool) => ([(32, .bool x9), (2, .slice a2.a a2.n a2.c), (7, .pointer (some x4)), (8, .pointer x6.1)] : Env)) 3 ?_ ?_
    · refine RefL.ite (s := 29) rfl ?_ ?_
      · refine RefL.skip rfl rfl ?_
        refine RefL.skip rfl rfl ?_
        refine RefL.pure rfl rfl (RanP.pickT rfl rfl) ?_
        refine RefL.nil ?_
        exact RefE.fin (s := true) ⟨rfl, rfl, rfl, rfl, trivial⟩
      · refine RefL.pure rfl rfl (RanP.move rfl) ?_
        refine RefL.pure rfl rfl (RanP.eqlNil Tryz.underlying68 rfl rfl) ?_
        refine RefL.pure rfl rfl (RanP.pickF rfl rfl) ?_
        refine RefL.nil ?_
        exact RefE.fin (s := (Option.isNone x6.1)) ⟨rfl, rfl, rfl, rfl, trivial⟩
    · intro x9
      refine RefL.nil ?_
      refine RefE.next ?_
      refine RefC.cond rfl ?_ ?_
      · refine RefC.seq ?_
        refine RefC.region ?_
        refine RefL.pure rfl rfl (RanP.assign rfl) ?_
        refine RefL.nil ?_
        refine RefE.next ?_
        refine RefC.ret ?_
        refine RefE.thenRet ?_
        refine RefE.retV rfl ?_
        refine RefV.tmp rfl ?_
        exact RefV.nil rfl
      · refine RefC.skip ?_
        refine RefE.next ?_
        refine RefC.seq ?_
        refine RefC.seq ?_
        refine RefC.region ?_
        refine RefL.pure rfl rfl (RanP.assign rfl) ?_
        refine RefL.nil ?_
        refine RefE.next ?_
        refine RefC.cut (enc := fun (s62 : Unit) => ([(7, .pointer (some x4)), (8, .pointer x6.1)] : Env)) ?_ ?_
        · refine RefC.block ?_
          refine RefC.loopW (enc := fun (s49 : Int) => ([(10, .int .i64 s49), (2, .slice a2.a a2.n a2.c), (7, .pointer (some x4)), (8, .pointer x6.1)] : Env)) ⟨rfl, rfl, rfl, rfl, trivial⟩ ?_ _
          intro again k ih s49
          unfold law17_BridgeEnds_l0
          refine RefC.seq ?_
          refine RefC.seq ?_
          refine RefC.region ?_
          refine RefL.pure rfl rfl (RanP.move rfl) ?_
          refine RefL.pure rfl rfl (RanP.move rfl) ?_
          refine RefL.pure rfl rfl (RanP.lenSl rfl Tryz.underlying87 rfl) ?_
          refine RefL.pure rfl rfl (RanP.lss rfl rfl) ?_
          refine RefL.pure rfl rfl (RanP.move rfl) ?_
          refine RefL.cut (enc := fun (x50 : Bool) => ([(40, .bool x50), (2, .slice a2.a a2.n a2.c), (7, .pointer (some x4)), (8, .pointer x6.1), (10, .int .i64 s49)] : Env)) 3 ?_ ?_
          · refine RefL.ite (s := 37) rfl ?_ ?_
            · refine RefL.pure rfl rfl (RanP.move rfl) ?_
              refine RefL.pure rfl rfl (RanP.lss rfl rfl) ?_
              refine RefL.pure rfl rfl (RanP.pickT rfl rfl) ?_
              refine RefL.nil ?_
              exact RefE.fin (s := (decide (s49 < (20 : Int)))) ⟨rfl, rfl, rfl, rfl, rfl, trivial⟩
            · refine RefL.skip rfl rfl ?_
              refine RefL.skip rfl rfl ?_
              refine RefL.pure rfl rfl (RanP.pickF rfl rfl) ?_
              refine RefL.nil ?_
              exact RefE.fin (s := false) ⟨rfl, rfl, rfl, rfl, rfl, trivial⟩
          · intro x50
            refine RefL.nil ?_
            refine RefE.next ?_
            refine RefC.cond rfl ?_ ?_
            · refine RefC.skip ?_
              refine RefE.next ?_
              refine RefC.seq ?_
              refine RefC.block ?_
              refine RefC.seq ?_
              refine RefC.region ?_
              refine RefL.pure rfl rfl (RanP.move rfl) ?_
              refine RefL.pure rfl rfl (RanP.move rfl) ?_
              refine RefL.li rfl rfl (Lt.ixA Tryz.underlying87 Tryz.sizeOf90 rfl rfl fun x51 => ?_)
              refine RefL.li rfl rfl (Lt.ldG (τ := Tref17_Act) Tryz.isAgg90 Tryz.sizeOf90 rfl fun x52 => ?_)
              refine RefL.hv rfl rfl (Hv.newZ Tryz.zeroValue90 rfl fun x53 => ?_)
              refine RefL.hv rfl rfl (Hv.st Tryz.sizeOf90 rfl rfl rfl ?_)
              refine RefL.nil ?_
              refine RefE.next ?_
              refine RefC.seq ?_
              refine RefC.region ?_
              refine RefL.li rfl rfl (Lt.ldG (τ := Tref17_Act) Tryz.isAgg90 Tryz.sizeOf90 rfl fun x54 => ?_)
              refine RefL.hv rfl rfl (Hv.call (law17_few_ref K x54) Tryz.call48 rfl rfl rfl fun x55 => ?_)
              refine RefL.nil ?_
              refine RefE.next ?_
              refine RefC.cut (enc := fun (s60 : Unit) => ([(2, .slice a2.a a2.n a2.c), (7, .pointer (some x4)), (8, .pointer x6.1), (10, .int .i64 s49)] : Env)) ?_ ?_
              · refine RefC.cond rfl ?_ ?_
                · refine RefC.region ?_
                  refine RefL.pure rfl rfl (RanP.move rfl) ?_
                  refine RefL.li rfl rfl (Lt.ldG (τ := Tref17_Act) Tryz.isAgg90 Tryz.sizeOf90 rfl fun x58 => ?_)
                  refine RefL.hv rfl rfl (Hv.call (law17_play_ref K x6.1 x58) Tryz.call51 rfl rfl rfl fun x59 => ?_)
                  refine RefL.nil ?_
                  exact RefE.fin (s := ()) ⟨rfl, rfl, rfl, rfl, trivial⟩
                · refine RefC.skip ?_
                  exact RefE.fin (s := ()) ⟨rfl, rfl, rfl, rfl, trivial⟩
              · intro s60
                refine RefE.blockNormal ?_
                refine RefE.next ?_
                refine RefC.region ?_
                refine RefL.pure rfl rfl (RanP.move rfl) ?_
                refine RefL.pure rfl rfl (RanP.add rfl rfl) ?_
                refine RefL.pure rfl rfl (RanP.assign rfl) ?_
                refine RefL.lt 10 (fun y => .int .i64 y) rfl fun x61 => ?_
                refine RefL.nil ?_
                exact RefE.again (ih (x61)) ⟨rfl, rfl, rfl, rfl, trivial⟩
            · refine RefC.exit ?_
              refine RefE.thenExit ?_
              refine RefE.roundExit ?_
              refine RefE.blockExit ?_
              exact RefE.fin (s := ()) ⟨rfl, rfl, trivial⟩
        · intro s62
          refine RefE.next ?_
          refine RefC.seq ?_
          refine RefC.seq ?_
          refine RefC.region ?_
          refine RefL.pure rfl rfl (RanP.assign rfl) ?_
          refine RefL.nil ?_
          refine RefE.next ?_
          refine RefC.cut (enc := fun (s859 : Unit) => ([(8, .pointer x6.1)] : Env)) ?_ ?_
          · refine RefC.block ?_
            refine RefC.loopW (enc := fun (s660 : Int) => ([(12, .int .i64 s660), (7, .pointer (some x4)), (8, .pointer x6.1)] : Env)) ⟨rfl, rfl, rfl, trivial⟩ ?_ _
            intro again k ih s660
            unfold law17_BridgeEnds_l3
            refine RefC.seq ?_
            refine RefC.seq ?_
            refine RefC.region ?_
            refine RefL.pure rfl rfl (RanP.move rfl) ?_
            refine RefL.pure rfl rfl (RanP.lss rfl rfl) ?_
            refine RefL.pure rfl rfl (RanP.move rfl) ?_
            refine RefL.cut (enc := fun (x661 : Bool) => ([(58, .bool x661), (7, .pointer (some x4)), (8, .pointer x6.1), (12, .int .i64 s660)] : Env)) 4 ?_ ?_
            · refine RefL.ite (s := 54) rfl ?_ ?_
              · refine RefL.pure rfl rfl (RanP.move rfl) ?_
                refine RefL.hv rfl rfl (Hv.call (bridge_Bridge_Over_ref K x6.1) Tryz.call45 rfl rfl rfl fun x662 => ?_)
                refine RefL.pure rfl rfl (RanP.not rfl) ?_
                refine RefL.pure rfl rfl (RanP.pickT rfl rfl) ?_
                refine RefL.nil ?_
                exact RefE.fin (s := (!x662)) ⟨rfl, rfl, rfl, rfl, trivial⟩
              · refine RefL.skip rfl rfl ?_
                refine RefL.skip rfl rfl ?_
                refine RefL.skip rfl rfl ?_
                refine RefL.pure rfl rfl (RanP.pickF rfl rfl) ?_
                refine RefL.nil ?_
                exact RefE.fin (s := false) ⟨rfl, rfl, rfl, rfl, trivial⟩
            · intro x661
              refine RefL.nil ?_
              refine RefE.next ?_
              refine RefC.cond rfl ?_ ?_
              · refine RefC.skip ?_
                refine RefE.next ?_
                refine RefC.seq ?_
                refine RefC.cut (enc := fun (s857 : Unit) => ([(7, .pointer (some x4)), (8, .pointer x6.1), (12, .int .i64 s660)] : Env)) ?_ ?_
                · refine RefC.block ?_
                  refine RefC.seq ?_
                  refine RefC.seq ?_
                  refine RefC.region ?_
                  refine RefL.pure rfl rfl (RanP.assign rfl) ?_
                  refine RefL.nil ?_
                  refine RefE.next ?_
                  refine RefC.cut (enc := fun (s852 : Unit) => ([(7, .pointer (some x4)), (8, .pointer x6.1), (12, .int .i64 s660)] : Env)) ?_ ?_
                  · refine RefC.block ?_
                    refine RefC.loopW (enc := fun (s829 : Int) => ([(13, .int .i64 s829), (7, .pointer (some x4)), (8, .pointer x6.1), (12, .int .i64 s660)] : Env)) ⟨rfl, rfl, rfl, rfl, trivial⟩ ?_ _
                    intro again k ih s829
                    unfold law17_BridgeEnds_l2
                    refine RefC.seq ?_
                    refine RefC.seq ?_
                    refine RefC.region ?_
                    refine RefL.pure rfl rfl (RanP.move rfl) ?_
                    refine RefL.pure rfl rfl (RanP.lss rfl rfl) ?_
                    refine RefL.nil ?_
                    refine RefE.next ?_
                    refine RefC.cond rfl ?_ ?_
                    · refine RefC.skip ?_
                      refine RefE.next ?_
                      refine RefC.seq ?_
                      refine RefC.cut (enc := fun (s850 : Unit) => ([(7, .pointer (some x4)), (8, .pointer x6.1), (12, .int .i64 s660), (13, .int .i64 s829)] : Env)) ?_ ?_
                      · refine RefC.block ?_
                        refine RefC.seq ?_
                        refine RefC.region ?_
                        refine RefL.pure rfl rfl (RanP.assign rfl) ?_
                        refine RefL.nil ?_
                        refine RefE.next ?_
                        refine RefC.block ?_
                        refine RefC.loopW (enc := fun (s845 : Int) => ([(14, .int .i64 s845), (7, .pointer (some x4)), (8, .pointer x6.1), (12, .int .i64 s660), (13, .int .i64 s829)] : Env)) ⟨rfl, rfl, rfl, rfl, rfl, trivial⟩ ?_ _
                        intro again k ih s845
                        unfold law17_BridgeEnds_l1
                        refine RefC.seq ?_
                        refine RefC.seq ?_
                        refine RefC.region ?_
                        refine RefL.pure rfl rfl (RanP.move rfl) ?_
                        refine RefL.pure rfl rfl (RanP.lss rfl rfl) ?_
                        refine RefL.pure rfl rfl (RanP.move rfl) ?_
                        refine RefL.cut (enc := fun (x846 : Bool) => ([(73, .bool x846), (7, .pointer (some x4)), (8, .pointer x6.1), (12, .int .i64 s660), (13, .int .i64 s829), (14, .int .i64 s845)] : Env)) 6 ?_ ?_
                        · refine RefL.ite (s := 67) rfl ?_ ?_
                          · refine RefL.pure rfl rfl (RanP.move rfl) ?_
                            refine RefL.pure rfl rfl (RanP.move rfl) ?_
                            refine RefL.hv rfl rfl (Hv.call (bridge_Bridge_Peek_ref K x6.1 s829 (1 : Int)) Tryz.call40 rfl rfl rfl fun x847 => ?_)
                            refine RefL.pure rfl rfl (RanP.lenSl rfl Tryz.underlying49 rfl) ?_
                            refine RefL.pure rfl rfl (RanP.gtr rfl rfl) ?_
                            refine RefL.pure rfl rfl (RanP.pickT rfl rfl) ?_
                            refine RefL.nil ?_
                            exact RefE.fin (s := (decide ((0 : Int) < (x847.n : Int)))) ⟨rfl, rfl, rfl, rfl, rfl, rfl, trivial⟩
                          · refine RefL.skip rfl rfl ?_
                            refine RefL.skip rfl rfl ?_
                            refine RefL.skip rfl rfl ?_
                            refine RefL.skip rfl rfl ?_
                            refine RefL.skip rfl rfl ?_
                            refine RefL.pure rfl rfl (RanP.pickF rfl rfl) ?_
                            refine RefL.nil ?_
                            exact RefE.fin (s := false) ⟨rfl, rfl, rfl, rfl, rfl, rfl, trivial⟩
                        · intro x846
                          refine RefL.nil ?_
                          refine RefE.next ?_
                          refine RefC.cond rfl ?_ ?_
                          · refine RefC.skip ?_
                            refine RefE.next ?_
                            refine RefC.seq ?_
                            refine RefC.block ?_
                            refine RefC.region ?_
                            refine RefL.pure rfl rfl (RanP.move rfl) ?_
                            refine RefL.pure rfl rfl (RanP.move rfl) ?_
                            refine RefL.hv rfl rfl (Hv.call (bridge_Bridge_Take_ref K x6.1 s829 (1000 : Int)) Tryz.call42 rfl rfl rfl fun x848 => ?_)
                            refine RefL.nil ?_
                            refine RefE.blockNormal ?_
                            refine RefE.next ?_
                            refine RefC.region ?_
                            refine RefL.pure rfl rfl (RanP.move rfl) ?_
                            refine RefL.pure rfl rfl (RanP.add rfl rfl) ?_
                            refine RefL.pure rfl rfl (RanP.assign rfl) ?_
                            refine RefL.lt 14 (fun y => .int .i64 y) rfl fun x849 => ?_
                            refine RefL.nil ?_
                            exact RefE.again (ih (x849)) ⟨rfl, rfl, rfl, rfl, rfl, trivial⟩
                          · refine RefC.exit ?_
                            refine RefE.thenExit ?_
                            refine RefE.roundExit ?_
                            refine RefE.blockExit ?_
                            refine RefE.blockNormal ?_
                            exact RefE.fin (s := ()) ⟨rfl, rfl, rfl, rfl, trivial⟩
                      · intro s850
                        refine RefE.next ?_
                        refine RefC.region ?_
                        refine RefL.pure rfl rfl (RanP.move rfl) ?_
                        refine RefL.pure rfl rfl (RanP.add rfl rfl) ?_
                        refine RefL.pure rfl rfl (RanP.assign rfl) ?_
                        refine RefL.lt 13 (fun y => .int .i64 y) rfl fun x851 => ?_
                        refine RefL.nil ?_
                        exact RefE.again (ih (x851)) ⟨rfl, rfl, rfl, rfl, trivial⟩
                    · refine RefC.exit ?_
                      refine RefE.thenExit ?_
                      refine RefE.roundExit ?_
                      refine RefE.blockExit ?_
                      exact RefE.fin (s := ()) ⟨rfl, rfl, rfl, trivial⟩
                  · intro s852
                    refine RefE.next ?_
                    refine RefC.region ?_
                    refine RefL.pure rfl rfl (RanP.move rfl) ?_
                    refine RefL.pure rfl rfl (RanP.fieldAddr fa_25_9 rfl) ?_
                    refine RefL.li rfl rfl (Lt.ldI Tryz.isAgg3 rfl fun x853 => ?_)
                    refine RefL.pure rfl rfl (RanP.fieldAddr fa_25_10 rfl) ?_
                    refine RefL.li rfl rfl (Lt.ldI Tryz.isAgg3 rfl fun x854 => ?_)
                    refine RefL.pure rfl rfl (RanP.add rfl rfl) ?_
                    refine RefL.pure rfl rfl (RanP.fieldAddr fa_25_11 rfl) ?_
                    refine RefL.li rfl rfl (Lt.ldI Tryz.isAgg3 rfl fun x855 => ?_)
                    refine RefL.pure rfl rfl (RanP.add rfl rfl) ?_
                    refine RefL.pure rfl rfl (RanP.add rfl rfl) ?_
                    refine RefL.hv rfl rfl (Hv.call (bridge_Bridge_Tick_ref K x6.1 (IntKind.wrap .i64 ((IntKind.wrap .i64 ((IntKind.wrap .i64 (x853 + x854)) + x855)) + (1 : Int)))) Tryz.call46 rfl rfl rfl fun x856 => ?_)
                    refine RefL.nil ?_
                    refine RefE.blockNormal ?_
                    exact RefE.fin (s := ()) ⟨rfl, rfl, rfl, trivial⟩
                · intro s857
                  refine RefE.next ?_
                  refine RefC.region ?_
                  refine RefL.pure rfl rfl (RanP.move rfl) ?_
                  refine RefL.pure rfl rfl (RanP.add rfl rfl) ?_
                  refine RefL.pure rfl rfl (RanP.assign rfl) ?_
                  refine RefL.lt 12 (fun y => .int .i64 y) rfl fun x858 => ?_
                  refine RefL.nil ?_
                  exact RefE.again (ih (x858)) ⟨rfl, rfl, rfl, trivial⟩
              · refine RefC.exit ?_
                refine RefE.thenExit ?_
                refine RefE.roundExit ?_
                refine RefE.blockExit ?_
                exact RefE.fin (s := ()) ⟨rfl, trivial⟩
          · intro s859
            refine RefE.next ?_
            refine RefC.seq ?_
            refine RefC.region ?_
            refine RefL.pure rfl rfl (RanP.move rfl) ?_
            refine RefL.hv rfl rfl (Hv.call (bridge_Bridge_Over_ref K x6.1) Tryz.call45 rfl rfl rfl fun x860 => ?_)
            refine RefL.pure rfl rfl (RanP.assign rfl) ?_
            refine RefL.nil ?_
            refine RefE.next ?_
            refine RefC.ret ?_
            refine RefE.retV rfl ?_
            refine RefV.tmp rfl ?_
            exact RefV.nil rfl

def stream_Stream_Part (K : Nat) (a0 : Option Addr) : G (Int) :=
  nn a0 fun x1 =>
  ldSl (x1.add 2) fun x2 =>
  lt (x2.n : Int) fun x3 =>
  ret x3
set_option maxRecDepth 100000 in
theorem stream_Stream_Part_ref (K : Nat) (a0 : Option Addr) : Does Tryz.prog 94 [.pointer a0] (stream_Stream_Part K a0) (fun r => .int .i64 r) := by
  refine Does.of Tryz.func94 rfl rfl rfl ?_
  unfold stream_Stream_Part
  refine RefC.seq ?_
  refine RefC.region ?_
  refine RefL.pure rfl rfl (RanP.assign rfl) ?_
  refine RefL.nil ?_
  refine RefE.next ?_
  refine RefC.seq ?_
  refine RefC.region ?_
  refine RefL.pure rfl rfl (RanP.move rfl) ?_
  refine RefL.li rfl rfl (Lt.nn rfl fun x1 => ?_)
  refine RefL.pure rfl rfl (RanP.fieldAddr fa_159_2 rfl) ?_
  refine RefL.li rfl rfl (Lt.ldSl Tryz.isAgg49 rfl fun x2 => ?_)
  refine RefL.pure rfl rfl (RanP.lenSl rfl Tryz.underlying49 rfl) ?_
  refine RefL.pure rfl rfl (RanP.assign rfl) ?_
  refine RefL.lt 2 (fun y => .int .i64 y) rfl fun x3 => ?_
  refine RefL.nil ?_
  refine RefE.next ?_
  refine RefC.ret ?_
  refine RefE.retV rfl ?_
  refine RefV.tmp rfl ?_
  exact RefV.nil rfl

def msg_Machine_Part (K : Nat) (a0 : Option Addr) : G (Int) :=
  nn a0 fun x1 =>
  ldSl (x1.add 2) fun x2 =>
  lt (x2.n : Int) fun x3 =>
  ret x3
set_option maxRecDepth 100000 in
theorem msg_Machine_Part_ref (K : Nat) (a0 : Option Addr) : Does Tryz.prog 95 [.pointer a0] (msg_Machine_Part K a0) (fun r => .int .i64 r) := by
  refine Does.of Tryz.func95 rfl rfl rfl ?_
  unfold msg_Machine_Part
  refine RefC.seq ?_
  refine RefC.region ?_
  refine RefL.pure rfl rfl (RanP.assign rfl) ?_
  refine RefL.nil ?_
  refine RefE.next ?_
  refine RefC.seq ?_
  refine RefC.region ?_
  refine RefL.pure rfl rfl (RanP.move rfl) ?_
  refine RefL.li rfl rfl (Lt.nn rfl fun x1 => ?_)
  refine RefL.pure rfl rfl (RanP.fieldAddr fa_163_2 rfl) ?_
  refine RefL.li rfl rfl (Lt.ldSl Tryz.isAgg49 rfl fun x2 => ?_)
  refine RefL.pure rfl rfl (RanP.lenSl rfl Tryz.underlying49 rfl) ?_
  refine RefL.pure rfl rfl (RanP.assign rfl) ?_
  refine RefL.lt 2 (fun y => .int .i64 y) rfl fun x3 => ?_
  refine RefL.nil ?_
  refine RefE.next ?_
  refine RefC.ret ?_
  refine RefE.retV rfl ?_
  refine RefV.tmp rfl ?_
  exact RefV.nil rfl

def leg_Leg_Kept (K : Nat) (a0 : Option Addr) : G (Int) :=
  drw <|
  nn a0 fun x1 =>
  ldP (x1.add 12) fun x2 =>
  nn a0 fun x3 =>
  wld fun w5 =>
  ldP (x3.add 13) fun x4 =>
  bnd (stream_Stream_Part K x2) fun x6 =>
  agr (like (x3.add 13) 1 w5) <|
  bnd (msg_Machine_Part K x4) fun x7 =>
  lt (IntKind.wrap .i64 (x6 + x7)) fun x8 =>
  ret x8
set_option maxRecDepth 100000 in
theorem leg_Leg_Kept_ref (K : Nat) (a0 : Option Addr) : Does Tryz.prog 54 [.pointer a0] (leg_Leg_Kept K a0) (fun r => .int .i64 r) := by
  refine Does.of Tryz.func54 rfl rfl rfl ?_
  unfold leg_Leg_Kept
  refine RefC.seq ?_
  refine RefC.region ?_
  refine RefL.pure rfl rfl (RanP.assign rfl) ?_
  refine RefL.nil ?_
  refine RefE.next ?_
  refine RefC.seq ?_
  refine RefC.draw mixed [0, 1, 3, 7, 15, 0, 32, 96, 224, 511, 1023, 2047] [.lp 0, .lp 1, .lp 2, .li 3, .lp 5, .lp 6, .lp 7, .li 8, .hv 4, .re 8, .hv 9, .lp 10, .lp 11] (by kernel_rfl) ?_
  refine RefD.pure (at_ rfl) rfl (RanP.move rfl) ?_
  refine RefD.any (at_ rfl) rfl (Lt.nn rfl fun x1 => ?_)
  refine RefD.pure (at_ rfl) rfl (RanP.fieldAddr fa_109_1 rfl) ?_
  refine RefD.li0 (at_ rfl) rfl (Lt.ldP Tryz.isAgg103 rfl fun x2 => ?_)
  refine RefD.pure (at_ rfl) rfl (RanP.move rfl) ?_
  refine RefD.any (at_ rfl) rfl (Lt.nn rfl fun x3 => ?_)
  refine RefD.pure (at_ rfl) rfl (RanP.fieldAddr fa_109_2 rfl) ?_
  refine RefD.li (at_ rfl) rfl fun w5 => (Lt.ldP Tryz.isAgg104 rfl fun x4 => ?_)
  refine RefD.hv (at_ rfl) rfl (Hv.call (stream_Stream_Part_ref K x2) Tryz.call94 rfl rfl rfl fun x6 => ?_)
  refine RefD.re rfl ?_
  refine RefD.hv (at_ rfl) rfl (Hv.call (msg_Machine_Part_ref K x4) Tryz.call95 rfl rfl rfl fun x7 => ?_)
  refine RefD.pure (at_ rfl) rfl (RanP.add rfl rfl) ?_
  refine RefD.pure (at_ rfl) rfl (RanP.assign rfl) ?_
  refine RefD.lt 2 (fun y => .int .i64 y) rfl fun x8 => ?_
  refine RefD.nil ?_
  refine RefE.next ?_
  refine RefC.ret ?_
  refine RefE.retV rfl ?_
  refine RefV.tmp rfl ?_
  exact RefV.nil rfl

def law16_awake (K : Nat) : G (Bool) :=
  bnd (law16_Config K (99 : Int) (49 : Int) (99 : Int)) fun x1 =>
  bnd (leg_New K x1 true (7 : Int)) fun x2 =>
  bnd (
    if (x2.2 != (0 : Int)) = true then
      ret true
    else
      ret (Option.isNone x2.1)) fun (x3 : Bool) =>
  if x3 = true then
    ret false
  else
    bnd (leg_Leg_Free K x2.1) fun x4 =>
    new [.int .u8 (129 : Int), .int .u8 (0 : Int)] 5 fun x5 =>
    bnd (leg_Leg_Feed K x2.1 (Sl.mk (some x5) 2 2)) fun x6 =>
    bnd (leg_Leg_Take K x2.1 (100 : Int)) fun x7 =>
    bnd (
      if x4 = true then
        ret ((x6.n : Int) == (0 : Int))
      else
        ret false) fun (x8 : Bool) =>
    bnd (
      if x8 = true then
        strOf x7 fun x10 =>
        ret (sEq x10 (ByteArray.mk #[136, 2, 3, 234]))
      else
        ret false) fun (x9 : Bool) =>
    bnd (
      if x9 = true then
        bnd (leg_Leg_Wrong K x2.1) fun x12 =>
        ret (x12 == (100 : Int))
      else
        ret false) fun (x11 : Bool) =>
    bnd (
      if x11 = true then
        bnd (leg_Leg_Sent K x2.1) fun x14 =>
        ret x14
      else
        ret false) fun (x13 : Bool) =>
    bnd (
      if x13 = true then
        bnd (leg_Leg_Got K x2.1) fun x16 =>
        ret (!x16)
      else
        ret false) fun (x15 : Bool) =>
    bnd (
      if x15 = true then
        bnd (leg_Leg_Quiet K x2.1) fun x18 =>
        ret x18
      else
        ret false) fun (x17 : Bool) =>
    bnd (
      if x17 = true then
        bnd (leg_Leg_Kept K x2.1) fun x20 =>
        ret (x20 == (0 : Int))
      else
        ret false) fun (x19 : Bool) =>
    bnd (
      if x19 = true then
        bnd (leg_Leg_Send K x2.1 (Tapi_Event.mk (1 : Int) (0 : Int) (ByteArray.mk #[]))) fun x22 =>
        ret (!x22)
      else
        ret false) fun (x21 : Bool) =>
    bnd (
      if x21 = true then
        bnd (leg_Leg_Ping K x2.1 (ByteArray.mk #[])) fun x24 =>
        ret (!x24)
      else
        ret false) fun (x23 : Bool) =>
    bnd (
      if x23 = true then
        bnd (leg_Leg_Close K x2.1 (1000 : Int) (ByteArray.mk #[])) fun x26 =>
        ret (!x26)
      else
        ret false) fun (x25 : Bool) =>
    bnd (
      if x25 = true then
        bnd (leg_Leg_Peek K x2.1 (9 : Int)) fun x28 =>
        ret ((x28.n : Int) == (0 : Int))
      else
        ret false) fun (x27 : Bool) =>
    ret x27
set_option maxRecDepth 100000 in
theorem law16_awake_ref (K : Nat) : Does Tryz.prog 15 [] (law16_awake K) (fun r => .bool r) := by
  refine Does.of Tryz.func15 rfl rfl rfl ?_
  unfold law16_awake
  refine RefC.seq ?_
  refine RefC.region ?_
  refine RefL.pure rfl rfl (RanP.assign rfl) ?_
  refine RefL.nil ?_
  refine RefE.next ?_
  refine RefC.seq ?_
  refine RefC.region ?_
  refine RefL.hv rfl rfl (Hv.call (law16_Config_ref K (99 : Int) (49 : Int) (99 : Int)) Tryz.call23 rfl rfl rfl fun x1 => ?_)
  refine RefL.hv rfl rfl (Hv.call (leg_New_ref K x1 true (7 : Int)) Tryz.call17 rfl rfl rfl fun x2 => ?_)
  refine RefL.pure rfl rfl (RanP.move rfl) ?_
  refine RefL.pure rfl rfl (RanP.extract rfl rfl) ?_
  refine RefL.pure rfl rfl (RanP.extract rfl rfl) ?_
  refine RefL.pure rfl rfl (RanP.assign rfl) ?_
  refine RefL.pure rfl rfl (RanP.assign rfl) ?_
  refine RefL.nil ?_
  refine RefE.next ?_
  refine RefC.seq ?_
  refine RefC.seq ?_
  refine RefC.region ?_
  refine RefL.pure rfl rfl (RanP.move rfl) ?_
  refine RefL.pure rfl rfl (RanP.neq rfl rfl) ?_
  refine RefL.pure rfl rfl (RanP.move rfl) ?_
  refine RefL.cut (enc := fun (x3 : Bool) => ([(16, .bool x3), (1, .pointer x2.1)] : Env)) 3 ?_ ?_
  · refine RefL.ite (s := 13) rfl ?_ ?_
    · refine RefL.skip rfl rfl ?_
      refine RefL.skip rfl rfl ?_
      refine RefL.pure rfl rfl (RanP.pickT rfl rfl) ?_
      refine RefL.nil ?_
      exact RefE.fin (s := true) ⟨rfl, rfl, trivial⟩
    · refine RefL.pure rfl rfl (RanP.move rfl) ?_
      refine RefL.pure rfl rfl (RanP.eqlNil Tryz.underlying30 rfl rfl) ?_
      refine RefL.pure rfl rfl (RanP.pickF rfl rfl) ?_
      refine RefL.nil ?_
      exact RefE.fin (s := (Option.isNone x2.1)) ⟨rfl, rfl, trivial⟩
  · intro x3
    refine RefL.nil ?_
    refine RefE.next ?_
    refine RefC.cond rfl ?_ ?_
    · refine RefC.seq ?_
      refine RefC.region ?_
      refine RefL.pure rfl rfl (RanP.assign rfl) ?_
      refine RefL.nil ?_
      refine RefE.next ?_
      refine RefC.ret ?_
      refine RefE.thenRet ?_
      refine RefE.retV rfl ?_
      refine RefV.tmp rfl ?_
      exact RefV.nil rfl
    · refine RefC.skip ?_
      refine RefE.next ?_
      refine RefC.seq ?_
      refine RefC.region ?_
      refine RefL.pure rfl rfl (RanP.move rfl) ?_
      refine RefL.hv rfl rfl (Hv.call (leg_Leg_Free_ref K x2.1) Tryz.call53 rfl rfl rfl fun x4 => ?_)
      refine RefL.pure rfl rfl (RanP.assign rfl) ?_
      refine RefL.nil ?_
      refine RefE.next ?_
      refine RefC.seq ?_
      refine RefC.region ?_
      refine RefL.pure rfl rfl (RanP.move rfl) ?_
      refine RefL.hv rfl rfl (Hv.buildSlice rfl (cs := [.int .u8 (129 : Int), .int .u8 (0 : Int)]) (e := 5) (fun _ => by kernel_rfl) fun x5 => ?_)
      refine RefL.hv rfl rfl (Hv.call (leg_Leg_Feed_ref K x2.1 (Sl.mk (some x5) 2 2)) Tryz.call24 rfl rfl rfl fun x6 => ?_)
      refine RefL.pure rfl rfl (RanP.assign rfl) ?_
      refine RefL.nil ?_
      refine RefE.next ?_
      refine RefC.seq ?_
      refine RefC.region ?_
      refine RefL.pure rfl rfl (RanP.move rfl) ?_
      refine RefL.hv rfl rfl (Hv.call (leg_Leg_Take_ref K x2.1 (100 : Int)) Tryz.call28 rfl rfl rfl fun x7 => ?_)
      refine RefL.pure rfl rfl (RanP.assign rfl) ?_
      refine RefL.nil ?_
      refine RefE.next ?_
      refine RefC.seq ?_
      refine RefC.region ?_
      refine RefL.pure rfl rfl (RanP.move rfl) ?_
      refine RefL.pure rfl rfl (RanP.move rfl) ?_
      refine RefL.cut (enc := fun (x8 : Bool) => ([(29, .bool x8), (1, .pointer x2.1), (5, .slice x7.a x7.n x7.c)] : Env)) 4 ?_ ?_
      · refine RefL.ite (s := 25) rfl ?_ ?_
        · refine RefL.pure rfl rfl (RanP.move rfl) ?_
          refine RefL.pure rfl rfl (RanP.lenSl rfl Tryz.underlying47 rfl) ?_
          refine RefL.pure rfl rfl (RanP.eql rfl rfl) ?_
          refine RefL.pure rfl rfl (RanP.pickT rfl rfl) ?_
          refine RefL.nil ?_
          exact RefE.fin (s := ((x6.n : Int) == (0 : Int))) ⟨rfl, rfl, rfl, trivial⟩
        · refine RefL.skip rfl rfl ?_
          refine RefL.skip rfl rfl ?_
          refine RefL.skip rfl rfl ?_
          refine RefL.pure rfl rfl (RanP.pickF rfl rfl) ?_
          refine RefL.nil ?_
          exact RefE.fin (s := false) ⟨rfl, rfl, rfl, trivial⟩
      · intro x8
        refine RefL.pure rfl rfl (RanP.move rfl) ?_
        refine RefL.cut (enc := fun (x9 : Bool) => ([(34, .bool x9), (1, .pointer x2.1)] : Env)) 4 ?_ ?_
        · refine RefL.ite (s := 30) rfl ?_ ?_
          · refine RefL.pure rfl rfl (RanP.move rfl) ?_
            refine RefL.li rfl rfl (Lt.strOf Tryz.underlying49 Tryz.underlying9 Tryz.underlying5 rfl fun x10 => ?_)
            refine RefL.pure rfl rfl (RanP.eqlS rfl rfl) ?_
            refine RefL.pure rfl rfl (RanP.pickT rfl rfl) ?_
            refine RefL.nil ?_
            exact RefE.fin (s := (sEq x10 (ByteArray.mk #[136, 2, 3, 234]))) ⟨rfl, rfl, trivial⟩
          · refine RefL.skip rfl rfl ?_
            refine RefL.skip rfl rfl ?_
            refine RefL.skip rfl rfl ?_
            refine RefL.pure rfl rfl (RanP.pickF rfl rfl) ?_
            refine RefL.nil ?_
            exact RefE.fin (s := false) ⟨rfl, rfl, trivial⟩
        · intro x9
          refine RefL.pure rfl rfl (RanP.move rfl) ?_
          refine RefL.cut (enc := fun (x11 : Bool) => ([(39, .bool x11), (1, .pointer x2.1)] : Env)) 4 ?_ ?_
          · refine RefL.ite (s := 35) rfl ?_ ?_
            · refine RefL.pure rfl rfl (RanP.move rfl) ?_
              refine RefL.hv rfl rfl (Hv.call (leg_Leg_Wrong_ref K x2.1) Tryz.call34 rfl rfl rfl fun x12 => ?_)
              refine RefL.pure rfl rfl (RanP.eql rfl rfl) ?_
              refine RefL.pure rfl rfl (RanP.pickT rfl rfl) ?_
              refine RefL.nil ?_
              exact RefE.fin (s := (x12 == (100 : Int))) ⟨rfl, rfl, trivial⟩
            · refine RefL.skip rfl rfl ?_
              refine RefL.skip rfl rfl ?_
              refine RefL.skip rfl rfl ?_
              refine RefL.pure rfl rfl (RanP.pickF rfl rfl) ?_
              refine RefL.nil ?_
              exact RefE.fin (s := false) ⟨rfl, rfl, trivial⟩
          · intro x11
            refine RefL.pure rfl rfl (RanP.move rfl) ?_
            refine RefL.cut (enc := fun (x13 : Bool) => ([(43, .bool x13), (1, .pointer x2.1)] : Env)) 3 ?_ ?_
            · refine RefL.ite (s := 40) rfl ?_ ?_
              · refine RefL.pure rfl rfl (RanP.move rfl) ?_
                refine RefL.hv rfl rfl (Hv.call (leg_Leg_Sent_ref K x2.1) Tryz.call32 rfl rfl rfl fun x14 => ?_)
                refine RefL.pure rfl rfl (RanP.pickT rfl rfl) ?_
                refine RefL.nil ?_
                exact RefE.fin (s := x14) ⟨rfl, rfl, trivial⟩
              · refine RefL.skip rfl rfl ?_
                refine RefL.skip rfl rfl ?_
                refine RefL.pure rfl rfl (RanP.pickF rfl rfl) ?_
                refine RefL.nil ?_
                exact RefE.fin (s := false) ⟨rfl, rfl, trivial⟩
            · intro x13
              refine RefL.pure rfl rfl (RanP.move rfl) ?_
              refine RefL.cut (enc := fun (x15 : Bool) => ([(48, .bool x15), (1, .pointer x2.1)] : Env)) 4 ?_ ?_
              · refine RefL.ite (s := 44) rfl ?_ ?_
                · refine RefL.pure rfl rfl (RanP.move rfl) ?_
                  refine RefL.hv rfl rfl (Hv.call (leg_Leg_Got_ref K x2.1) Tryz.call35 rfl rfl rfl fun x16 => ?_)
                  refine RefL.pure rfl rfl (RanP.not rfl) ?_
                  refine RefL.pure rfl rfl (RanP.pickT rfl rfl) ?_
                  refine RefL.nil ?_
                  exact RefE.fin (s := (!x16)) ⟨rfl, rfl, trivial⟩
                · refine RefL.skip rfl rfl ?_
                  refine RefL.skip rfl rfl ?_
                  refine RefL.skip rfl rfl ?_
                  refine RefL.pure rfl rfl (RanP.pickF rfl rfl) ?_
                  refine RefL.nil ?_
                  exact RefE.fin (s := false) ⟨rfl, rfl, trivial⟩
              · intro x15
                refine RefL.pure rfl rfl (RanP.move rfl) ?_
                refine RefL.cut (enc := fun (x17 : Bool) => ([(52, .bool x17), (1, .pointer x2.1)] : Env)) 3 ?_ ?_
                · refine RefL.ite (s := 49) rfl ?_ ?_
                  · refine RefL.pure rfl rfl (RanP.move rfl) ?_
                    refine RefL.hv rfl rfl (Hv.call (leg_Leg_Quiet_ref K x2.1) Tryz.call31 rfl rfl rfl fun x18 => ?_)
                    refine RefL.pure rfl rfl (RanP.pickT rfl rfl) ?_
                    refine RefL.nil ?_
                    exact RefE.fin (s := x18) ⟨rfl, rfl, trivial⟩
                  · refine RefL.skip rfl rfl ?_
                    refine RefL.skip rfl rfl ?_
                    refine RefL.pure rfl rfl (RanP.pickF rfl rfl) ?_
                    refine RefL.nil ?_
                    exact RefE.fin (s := false) ⟨rfl, rfl, trivial⟩
                · intro x17
                  refine RefL.pure rfl rfl (RanP.move rfl) ?_
                  refine RefL.cut (enc := fun (x19 : Bool) => ([(57, .bool x19), (1, .pointer x2.1)] : Env)) 4 ?_ ?_
                  · refine RefL.ite (s := 53) rfl ?_ ?_
                    · refine RefL.pure rfl rfl (RanP.move rfl) ?_
                      refine RefL.hv rfl rfl (Hv.call (leg_Leg_Kept_ref K x2.1) Tryz.call54 rfl rfl rfl fun x20 => ?_)
                      refine RefL.pure rfl rfl (RanP.eql rfl rfl) ?_
                      refine RefL.pure rfl rfl (RanP.pickT rfl rfl) ?_
                      refine RefL.nil ?_
                      exact RefE.fin (s := (x20 == (0 : Int))) ⟨rfl, rfl, trivial⟩
                    · refine RefL.skip rfl rfl ?_
                      refine RefL.skip rfl rfl ?_
                      refine RefL.skip rfl rfl ?_
                      refine RefL.pure rfl rfl (RanP.pickF rfl rfl) ?_
                      refine RefL.nil ?_
                      exact RefE.fin (s := false) ⟨rfl, rfl, trivial⟩
                  · intro x19
                    refine RefL.pure rfl rfl (RanP.move rfl) ?_
                    refine RefL.cut (enc := fun (x21 : Bool) => ([(63, .bool x21), (1, .pointer x2.1)] : Env)) 5 ?_ ?_
                    · refine RefL.ite (s := 58) rfl ?_ ?_
                      · refine RefL.pure rfl rfl (RanP.move rfl) ?_
                        refine RefL.pure rfl rfl (RanP.build rfl (v := .agg (Agg.cells (Tapi_Event.mk (1 : Int) (0 : Int) (ByteArray.mk #[]))).toArray) (fun _ => by kernel_rfl)) ?_
                        refine RefL.hv rfl rfl (Hv.call (leg_Leg_Send_ref K x2.1 (Tapi_Event.mk (1 : Int) (0 : Int) (ByteArray.mk #[]))) Tryz.call25 rfl rfl rfl fun x22 => ?_)
                        refine RefL.pure rfl rfl (RanP.not rfl) ?_
                        refine RefL.pure rfl rfl (RanP.pickT rfl rfl) ?_
                        refine RefL.nil ?_
                        exact RefE.fin (s := (!x22)) ⟨rfl, rfl, trivial⟩
                      · refine RefL.skip rfl rfl ?_
                        refine RefL.skip rfl rfl ?_
                        refine RefL.skip rfl rfl ?_
                        refine RefL.skip rfl rfl ?_
                        refine RefL.pure rfl rfl (RanP.pickF rfl rfl) ?_
                        refine RefL.nil ?_
                        exact RefE.fin (s := false) ⟨rfl, rfl, trivial⟩
                    · intro x21
                      refine RefL.pure rfl rfl (RanP.move rfl) ?_
                      refine RefL.cut (enc := fun (x23 : Bool) => ([(68, .bool x23), (1, .pointer x2.1)] : Env)) 4 ?_ ?_
                      · refine RefL.ite (s := 64) rfl ?_ ?_
                        · refine RefL.pure rfl rfl (RanP.move rfl) ?_
                          refine RefL.hv rfl rfl (Hv.call (leg_Leg_Ping_ref K x2.1 (ByteArray.mk #[])) Tryz.call26 rfl rfl rfl fun x24 => ?_)
                          refine RefL.pure rfl rfl (RanP.not rfl) ?_
                          refine RefL.pure rfl rfl (RanP.pickT rfl rfl) ?_
                          refine RefL.nil ?_
                          exact RefE.fin (s := (!x24)) ⟨rfl, rfl, trivial⟩
                        · refine RefL.skip rfl rfl ?_
                          refine RefL.skip rfl rfl ?_
                          refine RefL.skip rfl rfl ?_
                          refine RefL.pure rfl rfl (RanP.pickF rfl rfl) ?_
                          refine RefL.nil ?_
                          exact RefE.fin (s := false) ⟨rfl, rfl, trivial⟩
                      · intro x23
                        refine RefL.pure rfl rfl (RanP.move rfl) ?_
                        refine RefL.cut (enc := fun (x25 : Bool) => ([(73, .bool x25), (1, .pointer x2.1)] : Env)) 4 ?_ ?_
                        · refine RefL.ite (s := 69) rfl ?_ ?_
                          · refine RefL.pure rfl rfl (RanP.move rfl) ?_
                            refine RefL.hv rfl rfl (Hv.call (leg_Leg_Close_ref K x2.1 (1000 : Int) (ByteArray.mk #[])) Tryz.call27 rfl rfl rfl fun x26 => ?_)
                            refine RefL.pure rfl rfl (RanP.not rfl) ?_
                            refine RefL.pure rfl rfl (RanP.pickT rfl rfl) ?_
                            refine RefL.nil ?_
                            exact RefE.fin (s := (!x26)) ⟨rfl, rfl, trivial⟩
                          · refine RefL.skip rfl rfl ?_
                            refine RefL.skip rfl rfl ?_
                            refine RefL.skip rfl rfl ?_
                            refine RefL.pure rfl rfl (RanP.pickF rfl rfl) ?_
                            refine RefL.nil ?_
                            exact RefE.fin (s := false) ⟨rfl, rfl, trivial⟩
                        · intro x25
                          refine RefL.pure rfl rfl (RanP.move rfl) ?_
                          refine RefL.cut (enc := fun (x27 : Bool) => ([(79, .bool x27)] : Env)) 5 ?_ ?_
                          · refine RefL.ite (s := 74) rfl ?_ ?_
                            · refine RefL.pure rfl rfl (RanP.move rfl) ?_
                              refine RefL.hv rfl rfl (Hv.call (leg_Leg_Peek_ref K x2.1 (9 : Int)) Tryz.call55 rfl rfl rfl fun x28 => ?_)
                              refine RefL.pure rfl rfl (RanP.lenSl rfl Tryz.underlying49 rfl) ?_
                              refine RefL.pure rfl rfl (RanP.eql rfl rfl) ?_
                              refine RefL.pure rfl rfl (RanP.pickT rfl rfl) ?_
                              refine RefL.nil ?_
                              exact RefE.fin (s := ((x28.n : Int) == (0 : Int))) ⟨rfl, trivial⟩
                            · refine RefL.skip rfl rfl ?_
                              refine RefL.skip rfl rfl ?_
                              refine RefL.skip rfl rfl ?_
                              refine RefL.skip rfl rfl ?_
                              refine RefL.pure rfl rfl (RanP.pickF rfl rfl) ?_
                              refine RefL.nil ?_
                              exact RefE.fin (s := false) ⟨rfl, trivial⟩
                          · intro x27
                            refine RefL.pure rfl rfl (RanP.assign rfl) ?_
                            refine RefL.nil ?_
                            refine RefE.next ?_
                            refine RefC.ret ?_
                            refine RefE.retV rfl ?_
                            refine RefV.tmp rfl ?_
                            exact RefV.nil rfl

end Go.Proofs.YtjdnjlnfcbaokaaGreat

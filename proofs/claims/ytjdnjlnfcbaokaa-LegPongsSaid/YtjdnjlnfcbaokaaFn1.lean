/-
  Go functions as programs over the world, and that the model's code does what they say. Printed by gen.py (own work).
-/
import Derived.Test.YtjdnjlnfcbaokaaFn0
set_option linter.unusedVariables false
set_option linter.unusedSimpArgs false
namespace Go.Proofs.Ytjdnjlnfcbaokaa
open Go Go.Lg

def stream_New (K : Nat) (a0 : Bool) (a1 : Int) : G (Option Addr × Int) :=
  bnd (
    if (decide (a1 < (125 : Int))) = true then
      ret true
    else
      ret (decide ((65536 : Int) < a1))) fun (x1 : Bool) =>
  if x1 = true then
    ret (none, (101 : Int))
  else
    new (Agg.cells (Tstream_Stream.mk a0 a1 Sl.nil (0 : Int))) 93 fun x2 =>
    ret ((some x2), (0 : Int))
set_option maxRecDepth 100000 in
theorem stream_New_ref (K : Nat) (a0 : Bool) (a1 : Int) : Does Try.prog 28 [.bool a0, .int .i64 a1] (stream_New K a0 a1) (fun r => .tuple #[.pointer r.1, .int .i64 r.2]) := by
  refine Does.of Try.func28 rfl rfl rfl ?_
  unfold stream_New
  refine RefC.seq ?_
  refine RefC.region ?_
  refine RefL.pure rfl rfl (RanP.assign rfl) ?_
  refine RefL.pure rfl rfl (RanP.assign rfl) ?_
  refine RefL.nil ?_
  refine RefE.next ?_
  refine RefC.seq ?_
  refine RefC.seq ?_
  refine RefC.region ?_
  refine RefL.pure rfl rfl (RanP.move rfl) ?_
  refine RefL.pure rfl rfl (RanP.lss rfl rfl) ?_
  refine RefL.pure rfl rfl (RanP.move rfl) ?_
  refine RefL.cut (enc := fun (x1 : Bool) => ([(11, .bool x1), (0, .bool a0), (1, .int .i64 a1)] : Env)) 3 ?_ ?_
  · refine RefL.ite (s := 8) rfl ?_ ?_
    · refine RefL.skip rfl rfl ?_
      refine RefL.skip rfl rfl ?_
      refine RefL.pure rfl rfl (RanP.pickT rfl rfl) ?_
      refine RefL.nil ?_
      exact RefE.fin (s := true) ⟨rfl, rfl, rfl, trivial⟩
    · refine RefL.pure rfl rfl (RanP.move rfl) ?_
      refine RefL.pure rfl rfl (RanP.gtr rfl rfl) ?_
      refine RefL.pure rfl rfl (RanP.pickF rfl rfl) ?_
      refine RefL.nil ?_
      exact RefE.fin (s := (decide ((65536 : Int) < a1))) ⟨rfl, rfl, rfl, trivial⟩
  · intro x1
    refine RefL.nil ?_
    refine RefE.next ?_
    refine RefC.cond rfl ?_ ?_
    · refine RefC.seq ?_
      refine RefC.region ?_
      refine RefL.pure rfl rfl (RanP.assign rfl) ?_
      refine RefL.pure rfl rfl (RanP.assign rfl) ?_
      refine RefL.nil ?_
      refine RefE.next ?_
      refine RefC.ret ?_
      refine RefE.thenRet ?_
      refine RefE.retV rfl ?_
      refine RefV.tmp rfl ?_
      refine RefV.tmp rfl ?_
      exact RefV.nil rfl
    · refine RefC.skip ?_
      refine RefE.next ?_
      refine RefC.seq ?_
      refine RefC.region ?_
      refine RefL.pure rfl rfl (RanP.move rfl) ?_
      refine RefL.pure rfl rfl (RanP.move rfl) ?_
      refine RefL.pure rfl rfl (RanP.build rfl (v := .agg (Agg.cells (Tstream_Stream.mk a0 a1 Sl.nil (0 : Int))).toArray) (fun _ => by kernel_rfl)) ?_
      refine RefL.hv rfl rfl (Hv.box rfl rfl fun x2 => ?_)
      refine RefL.pure rfl rfl (RanP.assign rfl) ?_
      refine RefL.pure rfl rfl (RanP.assign rfl) ?_
      refine RefL.nil ?_
      refine RefE.next ?_
      refine RefC.ret ?_
      refine RefE.retV rfl ?_
      refine RefV.tmp rfl ?_
      refine RefV.tmp rfl ?_
      exact RefV.nil rfl

def utf_New (K : Nat) : G (Option Addr) :=
  new (Agg.cells (Tutf_Checker.mk (0 : Int) (0 : Int) (0 : Int) (0 : Int) false)) 119 fun x1 =>
  ret (some x1)
set_option maxRecDepth 100000 in
theorem utf_New_ref (K : Nat) : Does Try.prog 46 [] (utf_New K) (fun r => .pointer r) := by
  refine Does.of Try.func46 rfl rfl rfl ?_
  unfold utf_New
  refine RefC.seq ?_
  refine RefC.region ?_
  refine RefL.pure rfl rfl (RanP.assign rfl) ?_
  refine RefL.nil ?_
  refine RefE.next ?_
  refine RefC.seq ?_
  refine RefC.region ?_
  refine RefL.pure rfl rfl (RanP.build rfl (v := .agg (Agg.cells (Tutf_Checker.mk (0 : Int) (0 : Int) (0 : Int) (0 : Int) false)).toArray) (fun _ => by kernel_rfl)) ?_
  refine RefL.hv rfl rfl (Hv.box rfl rfl fun x1 => ?_)
  refine RefL.pure rfl rfl (RanP.assign rfl) ?_
  refine RefL.nil ?_
  refine RefE.next ?_
  refine RefC.ret ?_
  refine RefE.retV rfl ?_
  refine RefV.tmp rfl ?_
  exact RefV.nil rfl

def msg_New (K : Nat) (a0 : Int) : G (Option Addr × Int) :=
  bnd (
    if (decide (a0 < (1 : Int))) = true then
      ret true
    else
      ret (decide ((1048576 : Int) < a0))) fun (x1 : Bool) =>
  if x1 = true then
    ret (none, (123 : Int))
  else
    bnd (utf_New K) fun x2 =>
    new (Agg.cells (Tmsg_Machine.mk a0 (0 : Int) Sl.nil x2 false (0 : Int))) 97 fun x3 =>
    ret ((some x3), (0 : Int))
set_option maxRecDepth 100000 in
theorem msg_New_ref (K : Nat) (a0 : Int) : Does Try.prog 29 [.int .i64 a0] (msg_New K a0) (fun r => .tuple #[.pointer r.1, .int .i64 r.2]) := by
  refine Does.of Try.func29 rfl rfl rfl ?_
  unfold msg_New
  refine RefC.seq ?_
  refine RefC.region ?_
  refine RefL.pure rfl rfl (RanP.assign rfl) ?_
  refine RefL.pure rfl rfl (RanP.assign rfl) ?_
  refine RefL.nil ?_
  refine RefE.next ?_
  refine RefC.seq ?_
  refine RefC.seq ?_
  refine RefC.region ?_
  refine RefL.pure rfl rfl (RanP.move rfl) ?_
  refine RefL.pure rfl rfl (RanP.lss rfl rfl) ?_
  refine RefL.pure rfl rfl (RanP.move rfl) ?_
  refine RefL.cut (enc := fun (x1 : Bool) => ([(9, .bool x1), (0, .int .i64 a0)] : Env)) 3 ?_ ?_
  · refine RefL.ite (s := 6) rfl ?_ ?_
    · refine RefL.skip rfl rfl ?_
      refine RefL.skip rfl rfl ?_
      refine RefL.pure rfl rfl (RanP.pickT rfl rfl) ?_
      refine RefL.nil ?_
      exact RefE.fin (s := true) ⟨rfl, rfl, trivial⟩
    · refine RefL.pure rfl rfl (RanP.move rfl) ?_
      refine RefL.pure rfl rfl (RanP.gtr rfl rfl) ?_
      refine RefL.pure rfl rfl (RanP.pickF rfl rfl) ?_
      refine RefL.nil ?_
      exact RefE.fin (s := (decide ((1048576 : Int) < a0))) ⟨rfl, rfl, trivial⟩
  · intro x1
    refine RefL.nil ?_
    refine RefE.next ?_
    refine RefC.cond rfl ?_ ?_
    · refine RefC.seq ?_
      refine RefC.region ?_
      refine RefL.pure rfl rfl (RanP.assign rfl) ?_
      refine RefL.pure rfl rfl (RanP.assign rfl) ?_
      refine RefL.nil ?_
      refine RefE.next ?_
      refine RefC.ret ?_
      refine RefE.thenRet ?_
      refine RefE.retV rfl ?_
      refine RefV.tmp rfl ?_
      refine RefV.tmp rfl ?_
      exact RefV.nil rfl
    · refine RefC.skip ?_
      refine RefE.next ?_
      refine RefC.seq ?_
      refine RefC.region ?_
      refine RefL.pure rfl rfl (RanP.move rfl) ?_
      refine RefL.hv rfl rfl (Hv.call (utf_New_ref K) Try.call46 rfl rfl rfl fun x2 => ?_)
      refine RefL.pure rfl rfl (RanP.build rfl (v := .agg (Agg.cells (Tmsg_Machine.mk a0 (0 : Int) Sl.nil x2 false (0 : Int))).toArray) (fun _ => by kernel_rfl)) ?_
      refine RefL.hv rfl rfl (Hv.box rfl rfl fun x3 => ?_)
      refine RefL.pure rfl rfl (RanP.assign rfl) ?_
      refine RefL.pure rfl rfl (RanP.assign rfl) ?_
      refine RefL.nil ?_
      refine RefE.next ?_
      refine RefC.ret ?_
      refine RefE.retV rfl ?_
      refine RefV.tmp rfl ?_
      refine RefV.tmp rfl ?_
      exact RefV.nil rfl

def ring_New (K : Nat) (a0 : Int) : G (Option Addr × Int) :=
  bnd (
    if (decide (a0 < (1 : Int))) = true then
      ret true
    else
      ret (decide ((65536 : Int) < a0))) fun (x1 : Bool) =>
  if x1 = true then
    ret (none, (40 : Int))
  else
    mk 5 1 1 [.int .u8 (0 : Int)] a0 a0 fun x2 =>
    new (Agg.cells (Tring_Ring.mk x2 (0 : Int) (0 : Int))) 99 fun x3 =>
    ret ((some x3), (0 : Int))
set_option maxRecDepth 100000 in
theorem ring_New_ref (K : Nat) (a0 : Int) : Does Try.prog 30 [.int .i64 a0] (ring_New K a0) (fun r => .tuple #[.pointer r.1, .int .i64 r.2]) := by
  refine Does.of Try.func30 rfl rfl rfl ?_
  unfold ring_New
  refine RefC.seq ?_
  refine RefC.region ?_
  refine RefL.pure rfl rfl (RanP.assign rfl) ?_
  refine RefL.pure rfl rfl (RanP.assign rfl) ?_
  refine RefL.nil ?_
  refine RefE.next ?_
  refine RefC.seq ?_
  refine RefC.seq ?_
  refine RefC.region ?_
  refine RefL.pure rfl rfl (RanP.move rfl) ?_
  refine RefL.pure rfl rfl (RanP.lss rfl rfl) ?_
  refine RefL.pure rfl rfl (RanP.move rfl) ?_
  refine RefL.cut (enc := fun (x1 : Bool) => ([(9, .bool x1), (0, .int .i64 a0)] : Env)) 3 ?_ ?_
  · refine RefL.ite (s := 6) rfl ?_ ?_
    · refine RefL.skip rfl rfl ?_
      refine RefL.skip rfl rfl ?_
      refine RefL.pure rfl rfl (RanP.pickT rfl rfl) ?_
      refine RefL.nil ?_
      exact RefE.fin (s := true) ⟨rfl, rfl, trivial⟩
    · refine RefL.pure rfl rfl (RanP.move rfl) ?_
      refine RefL.pure rfl rfl (RanP.gtr rfl rfl) ?_
      refine RefL.pure rfl rfl (RanP.pickF rfl rfl) ?_
      refine RefL.nil ?_
      exact RefE.fin (s := (decide ((65536 : Int) < a0))) ⟨rfl, rfl, trivial⟩
  · intro x1
    refine RefL.nil ?_
    refine RefE.next ?_
    refine RefC.cond rfl ?_ ?_
    · refine RefC.seq ?_
      refine RefC.region ?_
      refine RefL.pure rfl rfl (RanP.assign rfl) ?_
      refine RefL.pure rfl rfl (RanP.assign rfl) ?_
      refine RefL.nil ?_
      refine RefE.next ?_
      refine RefC.ret ?_
      refine RefE.thenRet ?_
      refine RefE.retV rfl ?_
      refine RefV.tmp rfl ?_
      refine RefV.tmp rfl ?_
      exact RefV.nil rfl
    · refine RefC.skip ?_
      refine RefE.next ?_
      refine RefC.seq ?_
      refine RefC.region ?_
      refine RefL.pure rfl rfl (RanP.move rfl) ?_
      refine RefL.hv rfl rfl (Hv.mk (i := Try.t5) Try.underlying36 rfl rfl rfl rfl rfl rfl fun x2 => ?_)
      refine RefL.pure rfl rfl (RanP.build rfl (v := .agg (Agg.cells (Tring_Ring.mk x2 (0 : Int) (0 : Int))).toArray) (fun _ => by kernel_rfl)) ?_
      refine RefL.hv rfl rfl (Hv.box rfl rfl fun x3 => ?_)
      refine RefL.pure rfl rfl (RanP.assign rfl) ?_
      refine RefL.pure rfl rfl (RanP.assign rfl) ?_
      refine RefL.nil ?_
      refine RefE.next ?_
      refine RefC.ret ?_
      refine RefE.retV rfl ?_
      refine RefV.tmp rfl ?_
      refine RefV.tmp rfl ?_
      exact RefV.nil rfl

def leg_New (K : Nat) (a0 : Tapi_Config) (a1 : Bool) (a2 : Int) : G (Option Addr × Int) :=
  new (Agg.cells a0) 25 fun x1 =>
  ldG (α := Tapi_Config) x1 fun x2 =>
  bnd (route_Check K x2) fun x3 =>
  if (x3 != (0 : Int)) = true then
    ret (none, (160 : Int))
  else
    ldG (α := Tapi_Config) x1 fun x4 =>
    new (Agg.cells (Tleg_Leg.mk x4.Routes x4.Origins x4.Table x4.Message x4.Frame x4.Count x4.Bytes x4.Out x4.Shake x4.Idle x4.Pong x4.Close none none none Sl.nil Sl.nil Sl.nil (!a1) a2 false false (0 : Int))) 71 fun x5 =>
    ldI .i64 (x1.add 3) fun x6 =>
    bnd (stream_New K a1 (if x6 < (125 : Int) then (125 : Int) else x6)) fun x7 =>
    st (x5.add 12) (.pointer x7.1) <|
    ldI .i64 (x1.add 3) fun x8 =>
    bnd (msg_New K x8) fun x9 =>
    st (x5.add 13) (.pointer x9.1) <|
    ldI .i64 (x1.add 7) fun x10 =>
    bnd (ring_New K x10) fun x11 =>
    st ((x5.add 14).add 0) (.pointer x11.1) <|
    ret ((some x5), (0 : Int))
set_option maxRecDepth 100000 in
theorem leg_New_ref (K : Nat) (a0 : Tapi_Config) (a1 : Bool) (a2 : Int) : Does Try.prog 9 [.agg (Agg.cells a0).toArray, .bool a1, .int .u32 a2] (leg_New K a0 a1 a2) (fun r => .tuple #[.pointer r.1, .int .i64 r.2]) := by
  refine Does.of Try.func9 rfl rfl rfl ?_
  unfold leg_New
  refine RefC.seq ?_
  refine RefC.region ?_
  refine RefL.hv rfl rfl (Hv.box rfl rfl fun x1 => ?_)
  refine RefL.pure rfl rfl (RanP.assign rfl) ?_
  refine RefL.pure rfl rfl (RanP.assign rfl) ?_
  refine RefL.nil ?_
  refine RefE.next ?_
  refine RefC.seq ?_
  refine RefC.seq ?_
  refine RefC.region ?_
  refine RefL.li rfl rfl (Lt.ldG (τ := Tapi_Config) Try.isAgg25 Try.sizeOf25 rfl fun x2 => ?_)
  refine RefL.hv rfl rfl (Hv.call (route_Check_ref K x2) Try.call27 rfl rfl rfl fun x3 => ?_)
  refine RefL.pure rfl rfl (RanP.neq rfl rfl) ?_
  refine RefL.nil ?_
  refine RefE.next ?_
  refine RefC.cond rfl ?_ ?_
  · refine RefC.seq ?_
    refine RefC.region ?_
    refine RefL.pure rfl rfl (RanP.assign rfl) ?_
    refine RefL.pure rfl rfl (RanP.assign rfl) ?_
    refine RefL.nil ?_
    refine RefE.next ?_
    refine RefC.ret ?_
    refine RefE.thenRet ?_
    refine RefE.retV rfl ?_
    refine RefV.tmp rfl ?_
    refine RefV.tmp rfl ?_
    exact RefV.nil rfl
  · refine RefC.skip ?_
    refine RefE.next ?_
    refine RefC.seq ?_
    refine RefC.region ?_
    refine RefL.li rfl rfl (Lt.ldG (τ := Tapi_Config) Try.isAgg25 Try.sizeOf25 rfl fun x4 => ?_)
    refine RefL.pure rfl rfl (RanP.move rfl) ?_
    refine RefL.pure rfl rfl (RanP.not rfl) ?_
    refine RefL.pure rfl rfl (RanP.move rfl) ?_
    refine RefL.pure rfl rfl (RanP.build rfl (v := .agg (Agg.cells (Tleg_Leg.mk x4.Routes x4.Origins x4.Table x4.Message x4.Frame x4.Count x4.Bytes x4.Out x4.Shake x4.Idle x4.Pong x4.Close none none none Sl.nil Sl.nil Sl.nil (!a1) a2 false false (0 : Int))).toArray) (fun _ => by kernel_rfl)) ?_
    refine RefL.hv rfl rfl (Hv.box rfl rfl fun x5 => ?_)
    refine RefL.pure rfl rfl (RanP.assign rfl) ?_
    refine RefL.nil ?_
    refine RefE.next ?_
    refine RefC.seq ?_
    refine RefC.region ?_
    refine RefL.pure rfl rfl (RanP.move rfl) ?_
    refine RefL.pure rfl rfl (RanP.move rfl) ?_
    refine RefL.pure rfl rfl (RanP.fieldAddr fa_25_3 rfl) ?_
    refine RefL.li rfl rfl (Lt.ldI Try.isAgg3 rfl fun x6 => ?_)
    refine RefL.pure rfl rfl (RanP.max2 rfl) ?_
    refine RefL.hv rfl rfl (Hv.call (stream_New_ref K a1 (if x6 < (125 : Int) then (125 : Int) else x6)) Try.call28 rfl rfl rfl fun x7 => ?_)
    refine RefL.pure rfl rfl (RanP.move rfl) ?_
    refine RefL.pure rfl rfl (RanP.extract rfl rfl) ?_
    refine RefL.pure rfl rfl (RanP.extract rfl rfl) ?_
    refine RefL.pure rfl rfl (RanP.nilCheck rfl) ?_
    refine RefL.pure rfl rfl (RanP.fieldAddr fa_71_1 rfl) ?_
    refine RefL.hv rfl rfl (Hv.st Try.sizeOf65 rfl rfl rfl ?_)
    refine RefL.nil ?_
    refine RefE.next ?_
    refine RefC.seq ?_
    refine RefC.region ?_
    refine RefL.pure rfl rfl (RanP.move rfl) ?_
    refine RefL.pure rfl rfl (RanP.fieldAddr fa_25_3 rfl) ?_
    refine RefL.li rfl rfl (Lt.ldI Try.isAgg3 rfl fun x8 => ?_)
    refine RefL.hv rfl rfl (Hv.call (msg_New_ref K x8) Try.call29 rfl rfl rfl fun x9 => ?_)
    refine RefL.pure rfl rfl (RanP.move rfl) ?_
    refine RefL.pure rfl rfl (RanP.extract rfl rfl) ?_
    refine RefL.pure rfl rfl (RanP.extract rfl rfl) ?_
    refine RefL.pure rfl rfl (RanP.nilCheck rfl) ?_
    refine RefL.pure rfl rfl (RanP.fieldAddr fa_71_2 rfl) ?_
    refine RefL.hv rfl rfl (Hv.st Try.sizeOf66 rfl rfl rfl ?_)
    refine RefL.nil ?_
    refine RefE.next ?_
    refine RefC.seq ?_
    refine RefC.region ?_
    refine RefL.pure rfl rfl (RanP.move rfl) ?_
    refine RefL.pure rfl rfl (RanP.fieldAddr fa_25_7 rfl) ?_
    refine RefL.li rfl rfl (Lt.ldI Try.isAgg3 rfl fun x10 => ?_)
    refine RefL.hv rfl rfl (Hv.call (ring_New_ref K x10) Try.call30 rfl rfl rfl fun x11 => ?_)
    refine RefL.pure rfl rfl (RanP.move rfl) ?_
    refine RefL.pure rfl rfl (RanP.extract rfl rfl) ?_
    refine RefL.pure rfl rfl (RanP.extract rfl rfl) ?_
    refine RefL.pure rfl rfl (RanP.nilCheck rfl) ?_
    refine RefL.pure rfl rfl (RanP.fieldAddr fa_71_3 rfl) ?_
    refine RefL.pure rfl rfl (RanP.fieldAddr fa_69_0 rfl) ?_
    refine RefL.hv rfl rfl (Hv.st Try.sizeOf67 rfl rfl rfl ?_)
    refine RefL.nil ?_
    refine RefE.next ?_
    refine RefC.seq ?_
    refine RefC.region ?_
    refine RefL.pure rfl rfl (RanP.move rfl) ?_
    refine RefL.pure rfl rfl (RanP.assign rfl) ?_
    refine RefL.pure rfl rfl (RanP.assign rfl) ?_
    refine RefL.nil ?_
    refine RefE.next ?_
    refine RefC.ret ?_
    refine RefE.retV rfl ?_
    refine RefV.tmp rfl ?_
    refine RefV.tmp rfl ?_
    exact RefV.nil rfl

def leg_Leg_Free (K : Nat) (a0 : Option Addr) : G (Bool) :=
  nn a0 fun x1 =>
  ldB (x1.add 20) fun x2 =>
  bnd (
    if (!x2) = true then
      nn a0 fun x4 =>
      ldB (x4.add 21) fun x5 =>
      ret (!x5)
    else
      ret false) fun (x3 : Bool) =>
  bnd (
    if x3 = true then
      nn a0 fun x7 =>
      ldI .i64 (x7.add 22) fun x8 =>
      ret (x8 == (0 : Int))
    else
      ret false) fun (x6 : Bool) =>
  bnd (
    if x6 = true then
      nn a0 fun x10 =>
      ldSl (x10.add 17) fun x11 =>
      ret ((x11.n : Int) == (0 : Int))
    else
      ret false) fun (x9 : Bool) =>
  ret x9
set_option maxRecDepth 100000 in
theorem leg_Leg_Free_ref (K : Nat) (a0 : Option Addr) : Does Try.prog 26 [.pointer a0] (leg_Leg_Free K a0) (fun r => .bool r) := by
  refine Does.of Try.func26 rfl rfl rfl ?_
  unfold leg_Leg_Free
  refine RefC.seq ?_
  refine RefC.region ?_
  refine RefL.pure rfl rfl (RanP.assign rfl) ?_
  refine RefL.nil ?_
  refine RefE.next ?_
  refine RefC.seq ?_
  refine RefC.region ?_
  refine RefL.pure rfl rfl (RanP.move rfl) ?_
  refine RefL.li rfl rfl (Lt.nn rfl fun x1 => ?_)
  refine RefL.pure rfl rfl (RanP.fieldAddr fa_71_8 rfl) ?_
  refine RefL.li rfl rfl (Lt.ldB Try.isAgg4 rfl fun x2 => ?_)
  refine RefL.pure rfl rfl (RanP.not rfl) ?_
  refine RefL.pure rfl rfl (RanP.move rfl) ?_
  refine RefL.cut (enc := fun (x3 : Bool) => ([(14, .bool x3), (0, .pointer a0)] : Env)) 6 ?_ ?_
  · refine RefL.ite (s := 8) rfl ?_ ?_
    · refine RefL.pure rfl rfl (RanP.move rfl) ?_
      refine RefL.li rfl rfl (Lt.nn rfl fun x4 => ?_)
      refine RefL.pure rfl rfl (RanP.fieldAddr fa_71_9 rfl) ?_
      refine RefL.li rfl rfl (Lt.ldB Try.isAgg4 rfl fun x5 => ?_)
      refine RefL.pure rfl rfl (RanP.not rfl) ?_
      refine RefL.pure rfl rfl (RanP.pickT rfl rfl) ?_
      refine RefL.nil ?_
      exact RefE.fin (s := (!x5)) ⟨rfl, rfl, trivial⟩
    · refine RefL.skip rfl rfl ?_
      refine RefL.skip rfl rfl ?_
      refine RefL.skip rfl rfl ?_
      refine RefL.skip rfl rfl ?_
      refine RefL.skip rfl rfl ?_
      refine RefL.pure rfl rfl (RanP.pickF rfl rfl) ?_
      refine RefL.nil ?_
      exact RefE.fin (s := false) ⟨rfl, rfl, trivial⟩
  · intro x3
    refine RefL.pure rfl rfl (RanP.move rfl) ?_
    refine RefL.cut (enc := fun (x6 : Bool) => ([(21, .bool x6), (0, .pointer a0)] : Env)) 6 ?_ ?_
    · refine RefL.ite (s := 15) rfl ?_ ?_
      · refine RefL.pure rfl rfl (RanP.move rfl) ?_
        refine RefL.li rfl rfl (Lt.nn rfl fun x7 => ?_)
        refine RefL.pure rfl rfl (RanP.fieldAddr fa_71_10 rfl) ?_
        refine RefL.li rfl rfl (Lt.ldI Try.isAgg28 rfl fun x8 => ?_)
        refine RefL.pure rfl rfl (RanP.eql rfl rfl) ?_
        refine RefL.pure rfl rfl (RanP.pickT rfl rfl) ?_
        refine RefL.nil ?_
        exact RefE.fin (s := (x8 == (0 : Int))) ⟨rfl, rfl, trivial⟩
      · refine RefL.skip rfl rfl ?_
        refine RefL.skip rfl rfl ?_
        refine RefL.skip rfl rfl ?_
        refine RefL.skip rfl rfl ?_
        refine RefL.skip rfl rfl ?_
        refine RefL.pure rfl rfl (RanP.pickF rfl rfl) ?_
        refine RefL.nil ?_
        exact RefE.fin (s := false) ⟨rfl, rfl, trivial⟩
    · intro x6
      refine RefL.pure rfl rfl (RanP.move rfl) ?_
      refine RefL.cut (enc := fun (x9 : Bool) => ([(29, .bool x9)] : Env)) 7 ?_ ?_
      · refine RefL.ite (s := 22) rfl ?_ ?_
        · refine RefL.pure rfl rfl (RanP.move rfl) ?_
          refine RefL.li rfl rfl (Lt.nn rfl fun x10 => ?_)
          refine RefL.pure rfl rfl (RanP.fieldAddr fa_71_5 rfl) ?_
          refine RefL.li rfl rfl (Lt.ldSl Try.isAgg54 rfl fun x11 => ?_)
          refine RefL.pure rfl rfl (RanP.lenSl rfl Try.underlying54 rfl) ?_
          refine RefL.pure rfl rfl (RanP.eql rfl rfl) ?_
          refine RefL.pure rfl rfl (RanP.pickT rfl rfl) ?_
          refine RefL.nil ?_
          exact RefE.fin (s := ((x11.n : Int) == (0 : Int))) ⟨rfl, trivial⟩
        · refine RefL.skip rfl rfl ?_
          refine RefL.skip rfl rfl ?_
          refine RefL.skip rfl rfl ?_
          refine RefL.skip rfl rfl ?_
          refine RefL.skip rfl rfl ?_
          refine RefL.skip rfl rfl ?_
          refine RefL.pure rfl rfl (RanP.pickF rfl rfl) ?_
          refine RefL.nil ?_
          exact RefE.fin (s := false) ⟨rfl, trivial⟩
      · intro x9
        refine RefL.pure rfl rfl (RanP.assign rfl) ?_
        refine RefL.nil ?_
        refine RefE.next ?_
        refine RefC.ret ?_
        refine RefE.retV rfl ?_
        refine RefV.tmp rfl ?_
        exact RefV.nil rfl

def frame_Control (K : Nat) (a0 : Int) : G (Bool) :=
  bnd (
    if (a0 == (8 : Int)) = true then
      ret true
    else
      ret (a0 == (9 : Int))) fun (x1 : Bool) =>
  bnd (
    if x1 = true then
      ret true
    else
      ret (a0 == (10 : Int))) fun (x2 : Bool) =>
  ret x2
set_option maxRecDepth 100000 in
theorem frame_Control_ref (K : Nat) (a0 : Int) : Does Try.prog 68 [.int .i64 a0] (frame_Control K a0) (fun r => .bool r) := by
  refine Does.of Try.func68 rfl rfl rfl ?_
  unfold frame_Control
  refine RefC.seq ?_
  refine RefC.region ?_
  refine RefL.pure rfl rfl (RanP.assign rfl) ?_
  refine RefL.nil ?_
  refine RefE.next ?_
  refine RefC.seq ?_
  refine RefC.region ?_
  refine RefL.pure rfl rfl (RanP.move rfl) ?_
  refine RefL.pure rfl rfl (RanP.eql rfl rfl) ?_
  refine RefL.pure rfl rfl (RanP.move rfl) ?_
  refine RefL.cut (enc := fun (x1 : Bool) => ([(8, .bool x1), (0, .int .i64 a0)] : Env)) 3 ?_ ?_
  · refine RefL.ite (s := 5) rfl ?_ ?_
    · refine RefL.skip rfl rfl ?_
      refine RefL.skip rfl rfl ?_
      refine RefL.pure rfl rfl (RanP.pickT rfl rfl) ?_
      refine RefL.nil ?_
      exact RefE.fin (s := true) ⟨rfl, rfl, trivial⟩
    · refine RefL.pure rfl rfl (RanP.move rfl) ?_
      refine RefL.pure rfl rfl (RanP.eql rfl rfl) ?_
      refine RefL.pure rfl rfl (RanP.pickF rfl rfl) ?_
      refine RefL.nil ?_
      exact RefE.fin (s := (a0 == (9 : Int))) ⟨rfl, rfl, trivial⟩
  · intro x1
    refine RefL.pure rfl rfl (RanP.move rfl) ?_
    refine RefL.cut (enc := fun (x2 : Bool) => ([(12, .bool x2)] : Env)) 3 ?_ ?_
    · refine RefL.ite (s := 9) rfl ?_ ?_
      · refine RefL.skip rfl rfl ?_
        refine RefL.skip rfl rfl ?_
        refine RefL.pure rfl rfl (RanP.pickT rfl rfl) ?_
        refine RefL.nil ?_
        exact RefE.fin (s := true) ⟨rfl, trivial⟩
      · refine RefL.pure rfl rfl (RanP.move rfl) ?_
        refine RefL.pure rfl rfl (RanP.eql rfl rfl) ?_
        refine RefL.pure rfl rfl (RanP.pickF rfl rfl) ?_
        refine RefL.nil ?_
        exact RefE.fin (s := (a0 == (10 : Int))) ⟨rfl, trivial⟩
    · intro x2
      refine RefL.pure rfl rfl (RanP.assign rfl) ?_
      refine RefL.nil ?_
      refine RefE.next ?_
      refine RefC.ret ?_
      refine RefE.retV rfl ?_
      refine RefV.tmp rfl ?_
      exact RefV.nil rfl

def frame_known (K : Nat) (a0 : Int) : G (Bool) :=
  bnd (frame_Control K a0) fun x1 =>
  bnd (
    if x1 = true then
      ret true
    else
      ret (a0 == (0 : Int))) fun (x2 : Bool) =>
  bnd (
    if x2 = true then
      ret true
    else
      ret (a0 == (1 : Int))) fun (x3 : Bool) =>
  bnd (
    if x3 = true then
      ret true
    else
      ret (a0 == (2 : Int))) fun (x4 : Bool) =>
  ret x4
set_option maxRecDepth 100000 in
theorem frame_known_ref (K : Nat) (a0 : Int) : Does Try.prog 86 [.int .i64 a0] (frame_known K a0) (fun r => .bool r) := by
  refine Does.of Try.func86 rfl rfl rfl ?_
  unfold frame_known
  refine RefC.seq ?_
  refine RefC.region ?_
  refine RefL.pure rfl rfl (RanP.assign rfl) ?_
  refine RefL.nil ?_
  refine RefE.next ?_
  refine RefC.seq ?_
  refine RefC.region ?_
  refine RefL.pure rfl rfl (RanP.move rfl) ?_
  refine RefL.hv rfl rfl (Hv.call (frame_Control_ref K a0) Try.call68 rfl rfl rfl fun x1 => ?_)
  refine RefL.pure rfl rfl (RanP.move rfl) ?_
  refine RefL.cut (enc := fun (x2 : Bool) => ([(8, .bool x2), (0, .int .i64 a0)] : Env)) 3 ?_ ?_
  · refine RefL.ite (s := 5) rfl ?_ ?_
    · refine RefL.skip rfl rfl ?_
      refine RefL.skip rfl rfl ?_
      refine RefL.pure rfl rfl (RanP.pickT rfl rfl) ?_
      refine RefL.nil ?_
      exact RefE.fin (s := true) ⟨rfl, rfl, trivial⟩
    · refine RefL.pure rfl rfl (RanP.move rfl) ?_
      refine RefL.pure rfl rfl (RanP.eql rfl rfl) ?_
      refine RefL.pure rfl rfl (RanP.pickF rfl rfl) ?_
      refine RefL.nil ?_
      exact RefE.fin (s := (a0 == (0 : Int))) ⟨rfl, rfl, trivial⟩
  · intro x2
    refine RefL.pure rfl rfl (RanP.move rfl) ?_
    refine RefL.cut (enc := fun (x3 : Bool) => ([(12, .bool x3), (0, .int .i64 a0)] : Env)) 3 ?_ ?_
    · refine RefL.ite (s := 9) rfl ?_ ?_
      · refine RefL.skip rfl rfl ?_
        refine RefL.skip rfl rfl ?_
        refine RefL.pure rfl rfl (RanP.pickT rfl rfl) ?_
        refine RefL.nil ?_
        exact RefE.fin (s := true) ⟨rfl, rfl, trivial⟩
      · refine RefL.pure rfl rfl (RanP.move rfl) ?_
        refine RefL.pure rfl rfl (RanP.eql rfl rfl) ?_
        refine RefL.pure rfl rfl (RanP.pickF rfl rfl) ?_
        refine RefL.nil ?_
        exact RefE.fin (s := (a0 == (1 : Int))) ⟨rfl, rfl, trivial⟩
    · intro x3
      refine RefL.pure rfl rfl (RanP.move rfl) ?_
      refine RefL.cut (enc := fun (x4 : Bool) => ([(16, .bool x4)] : Env)) 3 ?_ ?_
      · refine RefL.ite (s := 13) rfl ?_ ?_
        · refine RefL.skip rfl rfl ?_
          refine RefL.skip rfl rfl ?_
          refine RefL.pure rfl rfl (RanP.pickT rfl rfl) ?_
          refine RefL.nil ?_
          exact RefE.fin (s := true) ⟨rfl, trivial⟩
        · refine RefL.pure rfl rfl (RanP.move rfl) ?_
          refine RefL.pure rfl rfl (RanP.eql rfl rfl) ?_
          refine RefL.pure rfl rfl (RanP.pickF rfl rfl) ?_
          refine RefL.nil ?_
          exact RefE.fin (s := (a0 == (2 : Int))) ⟨rfl, trivial⟩
      · intro x4
        refine RefL.pure rfl rfl (RanP.assign rfl) ?_
        refine RefL.nil ?_
        refine RefE.next ?_
        refine RefC.ret ?_
        refine RefE.retV rfl ?_
        refine RefV.tmp rfl ?_
        exact RefV.nil rfl

def mask_least_l0 (K : Nat) (a1 : Int) (a0 : Sl) (again : (Int × Int × Int) → G (Int × Int)) (s37 : Int × Int × Int) : G (Int × Int) :=
  if (decide (s37.2.2 < a1)) = true then
    bnd (
      if (decide (s37.2.2 < (a0.n : Int))) = true then
        drw <|
        ixA a0 s37.2.2 1 fun x42 =>
        ldI .u8 x42 fun x43 =>
        ixA a0 s37.2.2 1 fun x44 =>
        ldI .u8 x44 fun x45 =>
        ret (x43, x45)
      else
        ret ((0 : Int), (255 : Int))) fun (s46 : Int × Int) =>
    lt (orI .u64 (shlI .u64 s37.1 (8 : Int)) (IntKind.wrap .u64 s46.1)) fun x47 =>
    lt (orI .u64 (shlI .u64 s37.2.1 (8 : Int)) (IntKind.wrap .u64 s46.2)) fun x48 =>
    again (x47, x48, (IntKind.wrap .i64 (s37.2.2 + (1 : Int))))
  else
    ret (s37.1, s37.2.1)
def mask_least (K : Nat) (a0 : Sl) (a1 : Int) : G (Int × Int) :=
  bnd (
    loopG (mask_least_l0 K a1 a0) K ((0 : Int), (0 : Int), (0 : Int))) fun (s49 : Int × Int) =>
  ret (s49.1, s49.2)
set_option maxRecDepth 100000 in
theorem mask_least_ref (K : Nat) (a0 : Sl) (a1 : Int) : Does Try.prog 100 [.slice a0.a a0.n a0.c, .int .i64 a1] (mask_least K a0 a1) (fun r => .tuple #[.int .u64 r.1, .int .u64 r.2]) := by
  refine Does.of Try.func100 rfl rfl rfl ?_
  unfold mask_least
  refine RefC.seq ?_
  refine RefC.region ?_
  refine RefL.pure rfl rfl (RanP.assign rfl) ?_
  refine RefL.pure rfl rfl (RanP.assign rfl) ?_
  refine RefL.nil ?_
  refine RefE.next ?_
  refine RefC.seq ?_
  refine RefC.region ?_
  refine RefL.pure rfl rfl (RanP.assign rfl) ?_
  refine RefL.pure rfl rfl (RanP.assign rfl) ?_
  refine RefL.nil ?_
  refine RefE.next ?_
  refine RefC.seq ?_
  refine RefC.seq ?_
  refine RefC.region ?_
  refine RefL.pure rfl rfl (RanP.move rfl) ?_
  refine RefL.pure rfl rfl (RanP.move rfl) ?_
  refine RefL.nil ?_
  refine RefE.next ?_
  refine RefC.cut (enc := fun (s49 : Int × Int) => ([(6, .int .u64 s49.1), (7, .int .u64 s49.2)] : Env)) ?_ ?_
  · refine RefC.block ?_
    refine RefC.loopW (enc := fun (s37 : Int × Int × Int) => ([(6, .int .u64 s37.1), (7, .int .u64 s37.2.1), (12, .int .i64 s37.2.2), (0, .slice a0.a a0.n a0.c), (11, .int .i64 a1)] : Env)) ⟨rfl, rfl, rfl, rfl, rfl, trivial⟩ ?_ _
    intro again k ih s37
    unfold mask_least_l0
    refine RefC.seq ?_
    refine RefC.region ?_
    refine RefL.pure rfl rfl (RanP.lss rfl rfl) ?_
    refine RefL.nil ?_
    refine RefE.next ?_
    refine RefC.seq ?_
    refine RefC.cond rfl ?_ ?_
    · refine RefC.skip ?_
      refine RefE.next ?_
      refine RefC.seq ?_
      refine RefC.block ?_
      refine RefC.seq ?_
      refine RefC.region ?_
      refine RefL.pure rfl rfl (RanP.move rfl) ?_
      refine RefL.pure rfl rfl (RanP.assign rfl) ?_
      refine RefL.nil ?_
      refine RefE.next ?_
      refine RefC.seq ?_
      refine RefC.region ?_
      refine RefL.pure rfl rfl (RanP.assign rfl) ?_
      refine RefL.pure rfl rfl (RanP.assign rfl) ?_
      refine RefL.nil ?_
      refine RefE.next ?_
      refine RefC.seq ?_
      refine RefC.seq ?_
      refine RefC.region ?_
      refine RefL.pure rfl rfl (RanP.move rfl) ?_
      refine RefL.pure rfl rfl (RanP.move rfl) ?_
      refine RefL.pure rfl rfl (RanP.lenSl rfl Try.underlying36 rfl) ?_
      refine RefL.pure rfl rfl (RanP.lss rfl rfl) ?_
      refine RefL.nil ?_
      refine RefE.next ?_
      refine RefC.cut (enc := fun (s46 : Int × Int) => ([(9, .int .u8 s46.1), (10, .int .u8 s46.2), (0, .slice a0.a a0.n a0.c), (6, .int .u64 s37.1), (7, .int .u64 s37.2.1), (11, .int .i64 a1), (12, .int .i64 s37.2.2)] : Env)) ?_ ?_
      · refine RefC.cond rfl ?_ ?_
        · refine RefC.draw mixed [0, 0, 3, 7, 0, 0, 48, 112, 15, 511] [.lp 0, .lp 1, .lp 2, .li 3, .lp 4, .lp 5, .lp 6, .li 7, .lp 8, .lp 9] (by kernel_rfl) ?_
          refine RefD.pure (at_ rfl) rfl (RanP.move rfl) ?_
          refine RefD.pure (at_ rfl) rfl (RanP.move rfl) ?_
          refine RefD.any (at_ rfl) rfl (Lt.ixA Try.underlying36 Try.sizeOf5 rfl rfl fun x42 => ?_)
          refine RefD.li0 (at_ rfl) rfl (Lt.ldI Try.isAgg5 rfl fun x43 => ?_)
          refine RefD.pure (at_ rfl) rfl (RanP.move rfl) ?_
          refine RefD.pure (at_ rfl) rfl (RanP.move rfl) ?_
          refine RefD.any (at_ rfl) rfl (Lt.ixA Try.underlying36 Try.sizeOf5 rfl rfl fun x44 => ?_)
          refine RefD.li0 (at_ rfl) rfl (Lt.ldI Try.isAgg5 rfl fun x45 => ?_)
          refine RefD.pure (at_ rfl) rfl (RanP.assign rfl) ?_
          refine RefD.pure (at_ rfl) rfl (RanP.assign rfl) ?_
          refine RefD.nil ?_
          exact RefE.fin (s := (x43, x45)) ⟨rfl, rfl, rfl, rfl, rfl, rfl, rfl, trivial⟩
        · refine RefC.skip ?_
          exact RefE.fin (s := ((0 : Int), (255 : Int))) ⟨rfl, rfl, rfl, rfl, rfl, rfl, rfl, trivial⟩
      · intro s46
        refine RefE.next ?_
        refine RefC.region ?_
        refine RefL.pure rfl rfl (RanP.move rfl) ?_
        refine RefL.pure rfl rfl (RanP.shl (by decide) rfl rfl) ?_
        refine RefL.pure rfl rfl (RanP.move rfl) ?_
        refine RefL.pure rfl rfl (RanP.conv Try.underlying5 Try.underlying133 rfl) ?_
        refine RefL.pure rfl rfl (RanP.or rfl rfl) ?_
        refine RefL.pure rfl rfl (RanP.move rfl) ?_
        refine RefL.pure rfl rfl (RanP.shl (by decide) rfl rfl) ?_
        refine RefL.pure rfl rfl (RanP.move rfl) ?_
        refine RefL.pure rfl rfl (RanP.conv Try.underlying5 Try.underlying133 rfl) ?_
        refine RefL.pure rfl rfl (RanP.or rfl rfl) ?_
        refine RefL.pure rfl rfl (RanP.assign rfl) ?_
        refine RefL.lt 6 (fun y => .int .u64 y) rfl fun x47 => ?_
        refine RefL.pure rfl rfl (RanP.assign rfl) ?_
        refine RefL.lt 7 (fun y => .int .u64 y) rfl fun x48 => ?_
        refine RefL.nil ?_
        refine RefE.blockNormal ?_
        refine RefE.next ?_
        refine RefC.region ?_
        refine RefL.pure rfl rfl (RanP.add rfl rfl) ?_
        refine RefL.pure rfl rfl (RanP.move rfl) ?_
        refine RefL.nil ?_
        exact RefE.again (ih (x47, x48, (IntKind.wrap .i64 (s37.2.2 + (1 : Int))))) ⟨rfl, rfl, rfl, rfl, rfl, trivial⟩
    · refine RefC.exit ?_
      refine RefE.thenExit ?_
      refine RefE.roundExit ?_
      refine RefE.blockExit ?_
      exact RefE.fin (s := (s37.1, s37.2.1)) ⟨rfl, rfl, trivial⟩
  · intro s49
    refine RefE.next ?_
    refine RefC.seq ?_
    refine RefC.region ?_
    refine RefL.pure rfl rfl (RanP.move rfl) ?_
    refine RefL.pure rfl rfl (RanP.move rfl) ?_
    refine RefL.pure rfl rfl (RanP.assign rfl) ?_
    refine RefL.pure rfl rfl (RanP.assign rfl) ?_
    refine RefL.nil ?_
    refine RefE.next ?_
    refine RefC.ret ?_
    refine RefE.retV rfl ?_
    refine RefV.tmp rfl ?_
    refine RefV.tmp rfl ?_
    exact RefV.nil rfl

def mask_Get (K : Nat) (a0 : Sl) : G (Int × Int × Int) :=
  if ((a0.n : Int) == (0 : Int)) = true then
    ret ((0 : Int), (0 : Int), (80 : Int))
  else
    ixA a0 (0 : Int) 1 fun x1 =>
    ldI .u8 x1 fun x2 =>
    lt (andI .u8 x2 (127 : Int)) fun x3 =>
    lt (x3 == (126 : Int)) fun x4 =>
    bnd (
      if x4 = true then
        ret (.inl ((2 : Int), (126 : Int), (65535 : Int)))
      else
        lt (x3 == (127 : Int)) fun x7 =>
        if x7 = true then
          ret (.inl ((8 : Int), (65536 : Int), (9223372036854775807 : Int)))
        else
          lt (IntKind.wrap .u64 x3) fun x8 =>
          inr (ret (x8, (1 : Int), (0 : Int)))) (sumK fun (s9 : Int × Int × Int) =>
    slS a0 (some (1 : Int)) (some (if (IntKind.wrap .i64 ((1 : Int) + s9.1)) < (a0.n : Int) then (IntKind.wrap .i64 ((1 : Int) + s9.1)) else (a0.n : Int))) (some (a0.n : Int)) 1 fun x10 =>
    bnd (mask_least K x10 s9.1) fun x11 =>
    bnd (
      if (decide (x11.2 < s9.2.1)) = true then
        ret true
      else
        ret (decide (s9.2.2 < x11.1))) fun (x12 : Bool) =>
    if x12 = true then
      ret ((0 : Int), (0 : Int), (81 : Int))
    else
      lt (decide ((x10.n : Int) < s9.1)) fun x13 =>
      if x13 = true then
        ret ((0 : Int), (0 : Int), (80 : Int))
      else
        lt (IntKind.wrap .i64 ((1 : Int) + s9.1)) fun x14 =>
        ret (x11.1, x14, (0 : Int)))
set_option maxRecDepth 100000 in
theorem mask_Get_ref (K : Nat) (a0 : Sl) : Does Try.prog 87 [.slice a0.a a0.n a0.c] (mask_Get K a0) (fun r => .tuple #[.int .u64 r.1, .int .i64 r.2.1, .int .i64 r.2.2]) := by
  refine Does.of Try.func87 rfl rfl rfl ?_
  unfold mask_Get
  refine RefC.seq ?_
  refine RefC.region ?_
  refine RefL.pure rfl rfl (RanP.assign rfl) ?_
  refine RefL.pure rfl rfl (RanP.assign rfl) ?_
  refine RefL.pure rfl rfl (RanP.assign rfl) ?_
  refine RefL.nil ?_
  refine RefE.next ?_
  refine RefC.seq ?_
  refine RefC.seq ?_
  refine RefC.region ?_
  refine RefL.pure rfl rfl (RanP.move rfl) ?_
  refine RefL.pure rfl rfl (RanP.lenSl rfl Try.underlying36 rfl) ?_
  refine RefL.pure rfl rfl (RanP.eql rfl rfl) ?_
  refine RefL.nil ?_
  refine RefE.next ?_
  refine RefC.cond rfl ?_ ?_
  · refine RefC.seq ?_
    refine RefC.region ?_
    refine RefL.pure rfl rfl (RanP.assign rfl) ?_
    refine RefL.pure rfl rfl (RanP.assign rfl) ?_
    refine RefL.pure rfl rfl (RanP.assign rfl) ?_
    refine RefL.nil ?_
    refine RefE.next ?_
    refine RefC.ret ?_
    refine RefE.thenRet ?_
    refine RefE.retV rfl ?_
    refine RefV.tmp rfl ?_
    refine RefV.tmp rfl ?_
    refine RefV.tmp rfl ?_
    exact RefV.nil rfl
  · refine RefC.skip ?_
    refine RefE.next ?_
    refine RefC.seq ?_
    refine RefC.region ?_
    refine RefL.pure rfl rfl (RanP.move rfl) ?_
    refine RefL.li rfl rfl (Lt.ixA Try.underlying36 Try.sizeOf5 rfl rfl fun x1 => ?_)
    refine RefL.li rfl rfl (Lt.ldI Try.isAgg5 rfl fun x2 => ?_)
    refine RefL.pure rfl rfl (RanP.and rfl rfl) ?_
    refine RefL.pure rfl rfl (RanP.assign rfl) ?_
    refine RefL.lt 5 (fun y => .int .u8 y) rfl fun x3 => ?_
    refine RefL.nil ?_
    refine RefE.next ?_
    refine RefC.seq ?_
    refine RefC.region ?_
    refine RefL.pure rfl rfl (RanP.assign rfl) ?_
    refine RefL.pure rfl rfl (RanP.assign rfl) ?_
    refine RefL.pure rfl rfl (RanP.assign rfl) ?_
    refine RefL.nil ?_
    refine RefE.next ?_
    refine RefC.seq ?_
    refine RefC.seq ?_
    refine RefC.region ?_
    refine RefL.pure rfl rfl (RanP.move rfl) ?_
    refine RefL.nil ?_
    refine RefE.next ?_
    refine RefC.block ?_
    refine RefC.seq ?_
    refine RefC.region ?_
    refine RefL.pure rfl rfl (RanP.eql rfl rfl) ?_
    refine RefL.pure rfl rfl (RanP.assign rfl) ?_
    refine RefL.lt 22 (fun y => .bool y) rfl fun x4 => ?_
    refine RefL.nil ?_
    refine RefE.next ?_
    refine RefC.cutSum (enc := fun (s9 : Int × Int × Int) => ([(6, .int .i64 s9.1), (7, .int .u64 s9.2.1), (8, .int .u64 s9.2.2), (0, .slice a0.a a0.n a0.c)] : Env)) (KBlock.mono (KThen.mono KRet.mono)) ?_ ?_
    · refine RefC.cond rfl ?_ ?_
      · refine RefC.region ?_
        refine RefL.pure rfl rfl (RanP.assign rfl) ?_
        refine RefL.pure rfl rfl (RanP.assign rfl) ?_
        refine RefL.pure rfl rfl (RanP.assign rfl) ?_
        refine RefL.nil ?_
        exact RefE.finL (s := ((2 : Int), (126 : Int), (65535 : Int))) ⟨rfl, rfl, rfl, rfl, trivial⟩
      · refine RefC.seq ?_
        refine RefC.region ?_
        refine RefL.pure rfl rfl (RanP.eql rfl rfl) ?_
        refine RefL.pure rfl rfl (RanP.assign rfl) ?_
        refine RefL.lt 24 (fun y => .bool y) rfl fun x7 => ?_
        refine RefL.nil ?_
        refine RefE.next ?_
        refine RefC.cond rfl ?_ ?_
        · refine RefC.region ?_
          refine RefL.pure rfl rfl (RanP.assign rfl) ?_
          refine RefL.pure rfl rfl (RanP.assign rfl) ?_
          refine RefL.nil ?_
          exact RefE.finL (s := ((8 : Int), (65536 : Int), (9223372036854775807 : Int))) ⟨rfl, rfl, rfl, rfl, trivial⟩
        · refine RefC.seq ?_
          refine RefC.region ?_
          refine RefL.pure rfl rfl (RanP.move rfl) ?_
          refine RefL.pure rfl rfl (RanP.conv Try.underlying5 Try.underlying133 rfl) ?_
          refine RefL.pure rfl rfl (RanP.assign rfl) ?_
          refine RefL.lt 2 (fun y => .int .u64 y) rfl fun x8 => ?_
          refine RefL.pure rfl rfl (RanP.assign rfl) ?_
          refine RefL.pure rfl rfl (RanP.assign rfl) ?_
          refine RefL.nil ?_
          refine RefE.next ?_
          refine RefC.ret ?_
          refine RefE.finR ?_
          refine RefE.blockRet ?_
          refine RefE.thenRet ?_
          refine RefE.retV rfl ?_
          refine RefV.tmp rfl ?_
          refine RefV.tmp rfl ?_
          refine RefV.tmp rfl ?_
          exact RefV.nil rfl
    · intro s9
      refine RefE.blockNormal ?_
      refine RefE.next ?_
      refine RefC.seq ?_
      refine RefC.region ?_
      refine RefL.pure rfl rfl (RanP.move rfl) ?_
      refine RefL.pure rfl rfl (RanP.move rfl) ?_
      refine RefL.pure rfl rfl (RanP.lenSl rfl Try.underlying36 rfl) ?_
      refine RefL.pure rfl rfl (RanP.move rfl) ?_
      refine RefL.pure rfl rfl (RanP.add rfl rfl) ?_
      refine RefL.pure rfl rfl (RanP.min2 rfl) ?_
      refine RefL.pure rfl rfl (RanP.move rfl) ?_
      refine RefL.pure rfl rfl (RanP.lenSl rfl Try.underlying36 rfl) ?_
      refine RefL.li rfl rfl (Lt.slS (kl := .i64) (kh := .i64) (km := .i64) Try.underlying36 Try.sizeOf5 rfl rfl rfl rfl (by simp) fun x10 => ?_)
      refine RefL.pure rfl rfl (RanP.assign rfl) ?_
      refine RefL.nil ?_
      refine RefE.next ?_
      refine RefC.seq ?_
      refine RefC.region ?_
      refine RefL.pure rfl rfl (RanP.move rfl) ?_
      refine RefL.pure rfl rfl (RanP.move rfl) ?_
      refine RefL.hv rfl rfl (Hv.call (mask_least_ref K x10 s9.1) Try.call100 rfl rfl rfl fun x11 => ?_)
      refine RefL.pure rfl rfl (RanP.move rfl) ?_
      refine RefL.pure rfl rfl (RanP.extract rfl rfl) ?_
      refine RefL.pure rfl rfl (RanP.extract rfl rfl) ?_
      refine RefL.pure rfl rfl (RanP.assign rfl) ?_
      refine RefL.pure rfl rfl (RanP.assign rfl) ?_
      refine RefL.nil ?_
      refine RefE.next ?_
      refine RefC.seq ?_
      refine RefC.block ?_
      refine RefC.seq ?_
      refine RefC.region ?_
      refine RefL.pure rfl rfl (RanP.move rfl) ?_
      refine RefL.pure rfl rfl (RanP.move rfl) ?_
      refine RefL.pure rfl rfl (RanP.lss rfl rfl) ?_
      refine RefL.pure rfl rfl (RanP.move rfl) ?_
      refine RefL.cut (enc := fun (x12 : Bool) => ([(49, .bool x12), (6, .int .i64 s9.1), (9, .slice x10.a x10.n x10.c), (10, .int .u64 x11.1)] : Env)) 4 ?_ ?_
      · refine RefL.ite (s := 45) rfl ?_ ?_
        · refine RefL.skip rfl rfl ?_
          refine RefL.skip rfl rfl ?_
          refine RefL.skip rfl rfl ?_
          refine RefL.pure rfl rfl (RanP.pickT rfl rfl) ?_
          refine RefL.nil ?_
          exact RefE.fin (s := true) ⟨rfl, rfl, rfl, rfl, trivial⟩
        · refine RefL.pure rfl rfl (RanP.move rfl) ?_
          refine RefL.pure rfl rfl (RanP.move rfl) ?_
          refine RefL.pure rfl rfl (RanP.gtr rfl rfl) ?_
          refine RefL.pure rfl rfl (RanP.pickF rfl rfl) ?_
          refine RefL.nil ?_
          exact RefE.fin (s := (decide (s9.2.2 < x11.1))) ⟨rfl, rfl, rfl, rfl, trivial⟩
      · intro x12
        refine RefL.pure rfl rfl (RanP.assign rfl) ?_
        refine RefL.nil ?_
        refine RefE.next ?_
        refine RefC.cond rfl ?_ ?_
        · refine RefC.seq ?_
          refine RefC.region ?_
          refine RefL.pure rfl rfl (RanP.assign rfl) ?_
          refine RefL.pure rfl rfl (RanP.assign rfl) ?_
          refine RefL.pure rfl rfl (RanP.assign rfl) ?_
          refine RefL.nil ?_
          refine RefE.next ?_
          refine RefC.ret ?_
          refine RefE.blockRet ?_
          refine RefE.thenRet ?_
          refine RefE.retV rfl ?_
          refine RefV.tmp rfl ?_
          refine RefV.tmp rfl ?_
          refine RefV.tmp rfl ?_
          exact RefV.nil rfl
        · refine RefC.seq ?_
          refine RefC.region ?_
          refine RefL.pure rfl rfl (RanP.move rfl) ?_
          refine RefL.pure rfl rfl (RanP.lenSl rfl Try.underlying36 rfl) ?_
          refine RefL.pure rfl rfl (RanP.move rfl) ?_
          refine RefL.pure rfl rfl (RanP.lss rfl rfl) ?_
          refine RefL.pure rfl rfl (RanP.assign rfl) ?_
          refine RefL.lt 50 (fun y => .bool y) rfl fun x13 => ?_
          refine RefL.nil ?_
          refine RefE.next ?_
          refine RefC.cond rfl ?_ ?_
          · refine RefC.seq ?_
            refine RefC.region ?_
            refine RefL.pure rfl rfl (RanP.assign rfl) ?_
            refine RefL.pure rfl rfl (RanP.assign rfl) ?_
            refine RefL.pure rfl rfl (RanP.assign rfl) ?_
            refine RefL.nil ?_
            refine RefE.next ?_
            refine RefC.ret ?_
            refine RefE.blockRet ?_
            refine RefE.thenRet ?_
            refine RefE.retV rfl ?_
            refine RefV.tmp rfl ?_
            refine RefV.tmp rfl ?_
            refine RefV.tmp rfl ?_
            exact RefV.nil rfl
          · refine RefC.skip ?_
            refine RefE.blockNormal ?_
            refine RefE.next ?_
            refine RefC.seq ?_
            refine RefC.region ?_
            refine RefL.pure rfl rfl (RanP.move rfl) ?_
            refine RefL.pure rfl rfl (RanP.move rfl) ?_
            refine RefL.pure rfl rfl (RanP.add rfl rfl) ?_
            refine RefL.pure rfl rfl (RanP.assign rfl) ?_
            refine RefL.pure rfl rfl (RanP.assign rfl) ?_
            refine RefL.lt 3 (fun y => .int .i64 y) rfl fun x14 => ?_
            refine RefL.pure rfl rfl (RanP.assign rfl) ?_
            refine RefL.nil ?_
            refine RefE.next ?_
            refine RefC.ret ?_
            refine RefE.retV rfl ?_
            refine RefV.tmp rfl ?_
            refine RefV.tmp rfl ?_
            refine RefV.tmp rfl ?_
            exact RefV.nil rfl

def mask_Apply_l0 (K : Nat) (a2 : Sl) (x3 : Int) (x1 : Addr) (x2 : Sl) (again : Int → G (Unit)) (s22 : Int) : G (Unit) :=
  if (decide (s22 < (a2.n : Int))) = true then
    drw <|
    ixA a2 s22 1 fun x23 =>
    ldI .u8 x23 fun x24 =>
    chk (0 ≤ (andI .i64 (IntKind.wrap .i64 (x3 + s22)) (3 : Int)) ∧ (andI .i64 (IntKind.wrap .i64 (x3 + s22)) (3 : Int)) < ((4 : Nat) : Int)) <|
    ldI .u8 (x1.add ((andI .i64 (IntKind.wrap .i64 (x3 + s22)) (3 : Int)).toNat * 1)) fun x26 =>
    ixA x2 s22 1 fun x27 =>
    st x27 (.int .u8 (xorI .u8 x24 x26)) <|
    again ((IntKind.wrap .i64 (s22 + (1 : Int))))
  else
    ret ()
def mask_Apply (K : Nat) (a0 : A4u8) (a1 : Int) (a2 : Sl) : G (Sl) :=
  new (Agg.cells a0) 57 fun x1 =>
  mk 5 1 1 [.int .u8 (0 : Int)] (a2.n : Int) (a2.n : Int) fun x2 =>
  lt (andI .i64 a1 (3 : Int)) fun x3 =>
  bnd (
    loopG (mask_Apply_l0 K a2 x3 x1 x2) K ((0 : Int))) fun (s28 : Unit) =>
  ret x2
set_option maxRecDepth 100000 in
theorem mask_Apply_ref (K : Nat) (a0 : A4u8) (a1 : Int) (a2 : Sl) : Does Try.prog 77 [.agg (Agg.cells a0).toArray, .int .i64 a1, .slice a2.a a2.n a2.c] (mask_Apply K a0 a1 a2) (fun r => .slice r.a r.n r.c) := by
  refine Does.of Try.func77 rfl rfl rfl ?_
  unfold mask_Apply
  refine RefC.seq ?_
  refine RefC.region ?_
  refine RefL.hv rfl rfl (Hv.box rfl rfl fun x1 => ?_)
  refine RefL.pure rfl rfl (RanP.assign rfl) ?_
  refine RefL.nil ?_
  refine RefE.next ?_
  refine RefC.seq ?_
  refine RefC.region ?_
  refine RefL.pure rfl rfl (RanP.move rfl) ?_
  refine RefL.pure rfl rfl (RanP.lenSl rfl Try.underlying36 rfl) ?_
  refine RefL.hv rfl rfl (Hv.mk (i := Try.t5) Try.underlying36 rfl rfl rfl rfl rfl rfl fun x2 => ?_)
  refine RefL.pure rfl rfl (RanP.assign rfl) ?_
  refine RefL.nil ?_
  refine RefE.next ?_
  refine RefC.seq ?_
  refine RefC.region ?_
  refine RefL.pure rfl rfl (RanP.move rfl) ?_
  refine RefL.pure rfl rfl (RanP.and rfl rfl) ?_
  refine RefL.pure rfl rfl (RanP.assign rfl) ?_
  refine RefL.lt 1 (fun y => .int .i64 y) rfl fun x3 => ?_
  refine RefL.nil ?_
  refine RefE.next ?_
  refine RefC.seq ?_
  refine RefC.seq ?_
  refine RefC.region ?_
  refine RefL.pure rfl rfl (RanP.move rfl) ?_
  refine RefL.pure rfl rfl (RanP.lenSl rfl Try.underlying36 rfl) ?_
  refine RefL.pure rfl rfl (RanP.move rfl) ?_
  refine RefL.nil ?_
  refine RefE.next ?_
  refine RefC.cut (enc := fun (s28 : Unit) => ([(7, .slice x2.a x2.n x2.c)] : Env)) ?_ ?_
  · refine RefC.block ?_
    refine RefC.loopW (enc := fun (s22 : Int) => ([(16, .int .i64 s22), (1, .int .i64 x3), (2, .slice a2.a a2.n a2.c), (3, .pointer (some x1)), (7, .slice x2.a x2.n x2.c), (15, .int .i64 (a2.n : Int))] : Env)) ⟨rfl, rfl, rfl, rfl, rfl, rfl, trivial⟩ ?_ _
    intro again k ih s22
    unfold mask_Apply_l0
    refine RefC.seq ?_
    refine RefC.region ?_
    refine RefL.pure rfl rfl (RanP.lss rfl rfl) ?_
    refine RefL.nil ?_
    refine RefE.next ?_
    refine RefC.seq ?_
    refine RefC.cond rfl ?_ ?_
    · refine RefC.skip ?_
      refine RefE.next ?_
      refine RefC.seq ?_
      refine RefC.block ?_
      refine RefC.seq ?_
      refine RefC.region ?_
      refine RefL.pure rfl rfl (RanP.move rfl) ?_
      refine RefL.pure rfl rfl (RanP.assign rfl) ?_
      refine RefL.nil ?_
      refine RefE.next ?_
      refine RefC.draw mixed [0, 0, 0, 0, 12, 28, 0, 0, 192, 448, 960, 1984, 4092, 8191, 16383] [.lp 0, .lp 1, .lp 2, .lp 3, .lp 4, .li 5, .lp 6, .lp 7, .lp 8, .lp 9, .lp 10, .li 11, .lp 12, .lp 13, .hv 14] (by kernel_rfl) ?_
      refine RefD.pure (at_ rfl) rfl (RanP.move rfl) ?_
      refine RefD.pure (at_ rfl) rfl (RanP.move rfl) ?_
      refine RefD.pure (at_ rfl) rfl (RanP.move rfl) ?_
      refine RefD.pure (at_ rfl) rfl (RanP.move rfl) ?_
      refine RefD.any (at_ rfl) rfl (Lt.ixA Try.underlying36 Try.sizeOf5 rfl rfl fun x23 => ?_)
      refine RefD.li0 (at_ rfl) rfl (Lt.ldI Try.isAgg5 rfl fun x24 => ?_)
      refine RefD.pure (at_ rfl) rfl (RanP.move rfl) ?_
      refine RefD.pure (at_ rfl) rfl (RanP.move rfl) ?_
      refine RefD.pure (at_ rfl) rfl (RanP.add rfl rfl) ?_
      refine RefD.pure (at_ rfl) rfl (RanP.and rfl rfl) ?_
      refine RefD.chk fun h25 => ?_
      refine RefD.pure (at_ rfl) rfl (RanP.ixArr (len := 4) h25 Try.underlying57 Try.sizeOf5 rfl rfl) ?_
      refine RefD.li0 (at_ rfl) rfl (Lt.ldI Try.isAgg5 rfl fun x26 => ?_)
      refine RefD.pure (at_ rfl) rfl (RanP.xor rfl rfl) ?_
      refine RefD.any (at_ rfl) rfl (Lt.ixA Try.underlying36 Try.sizeOf5 rfl rfl fun x27 => ?_)
      refine RefD.hv (at_ rfl) rfl (Hv.st Try.sizeOf5 rfl rfl rfl ?_)
      refine RefD.nil ?_
      refine RefE.blockNormal ?_
      refine RefE.next ?_
      refine RefC.region ?_
      refine RefL.pure rfl rfl (RanP.add rfl rfl) ?_
      refine RefL.pure rfl rfl (RanP.move rfl) ?_
      refine RefL.nil ?_
      exact RefE.again (ih ((IntKind.wrap .i64 (s22 + (1 : Int))))) ⟨rfl, rfl, rfl, rfl, rfl, rfl, trivial⟩
    · refine RefC.exit ?_
      refine RefE.thenExit ?_
      refine RefE.roundExit ?_
      refine RefE.blockExit ?_
      exact RefE.fin (s := ()) ⟨rfl, trivial⟩
  · intro s28
    refine RefE.next ?_
    refine RefC.seq ?_
    refine RefC.region ?_
    refine RefL.pure rfl rfl (RanP.move rfl) ?_
    refine RefL.pure rfl rfl (RanP.assign rfl) ?_
    refine RefL.nil ?_
    refine RefE.next ?_
    refine RefC.ret ?_
    refine RefE.retV rfl ?_
    refine RefV.tmp rfl ?_
    exact RefV.nil rfl

def frame_Get (K : Nat) (a0 : Sl) (a1 : Int) : G (Tapi_Frame × Int × Int) :=
  new [.bool false, .int .i64 (0 : Int), .bool false, .int .u8 (0 : Int), .int .u8 (0 : Int), .int .u8 (0 : Int), .int .u8 (0 : Int), .string (ByteArray.mk #[])] 59 fun x1 =>
  if ((a0.n : Int) == (0 : Int)) = true then
    st x1 (.agg (Agg.cells (Tapi_Frame.mk false (0 : Int) false (0 : Int) (0 : Int) (0 : Int) (0 : Int) (ByteArray.mk #[]))).toArray) <|
    ldG (α := Tapi_Frame) x1 fun r2 =>
    ret (r2, (0 : Int), (90 : Int))
  else
    drw <|
    ixA a0 (0 : Int) 1 fun x3 =>
    wld fun w5 =>
    ldI .u8 x3 fun x4 =>
    ixA a0 (0 : Int) 1 fun x6 =>
    wld fun w8 =>
    ldI .u8 x6 fun x7 =>
    new [.bool false, .int .i64 (0 : Int), .bool false, .int .u8 (0 : Int), .int .u8 (0 : Int), .int .u8 (0 : Int), .int .u8 (0 : Int), .string (ByteArray.mk #[])] 59 fun x9 =>
    agr (like x3 1 w5) <|
    agr (like x6 1 w8) <|
    st x9 (.agg (Agg.cells (Tapi_Frame.mk ((andI .u8 x4 (128 : Int)) != (0 : Int)) (IntKind.wrap .i64 (andI .u8 x7 (15 : Int))) false (0 : Int) (0 : Int) (0 : Int) (0 : Int) (ByteArray.mk #[]))).toArray) <|
    ldI .i64 (x9.add 1) fun x10 =>
    bnd (frame_Control K x10) fun x11 =>
    ixA a0 (0 : Int) 1 fun x12 =>
    ldI .u8 x12 fun x13 =>
    bnd (
      if ((andI .u8 x13 (112 : Int)) != (0 : Int)) = true then
        ret true
      else
        ldI .i64 (x9.add 1) fun x15 =>
        bnd (frame_known K x15) fun x16 =>
        ret (!x16)) fun (x14 : Bool) =>
    bnd (
      if x14 = true then
        ret true
      else
        bnd (
          if x11 = true then
            ldB (x9.add 0) fun x19 =>
            ret (!x19)
          else
            ret false) fun (x18 : Bool) =>
        ret x18) fun (x17 : Bool) =>
    bnd (
      if x17 = true then
        ret true
      else
        bnd (
          if x11 = true then
            ret (decide ((1 : Int) < (a0.n : Int)))
          else
            ret false) fun (x21 : Bool) =>
        bnd (
          if x21 = true then
            ixA a0 (1 : Int) 1 fun x23 =>
            ldI .u8 x23 fun x24 =>
            ret (decide ((125 : Int) < (andI .u8 x24 (127 : Int))))
          else
            ret false) fun (x22 : Bool) =>
        ret x22) fun (x20 : Bool) =>
    if x20 = true then
      st x1 (.agg (Agg.cells (Tapi_Frame.mk false (0 : Int) false (0 : Int) (0 : Int) (0 : Int) (0 : Int) (ByteArray.mk #[]))).toArray) <|
      ldG (α := Tapi_Frame) x1 fun r25 =>
      ret (r25, (0 : Int), (91 : Int))
    else
      slS a0 (some (1 : Int)) none none 1 fun x26 =>
      bnd (mask_Get K x26) fun x27 =>
      lt (x27.2.2 == (81 : Int)) fun x28 =>
      if x28 = true then
        st x1 (.agg (Agg.cells (Tapi_Frame.mk false (0 : Int) false (0 : Int) (0 : Int) (0 : Int) (0 : Int) (ByteArray.mk #[]))).toArray) <|
        ldG (α := Tapi_Frame) x1 fun r29 =>
        ret (r29, (0 : Int), (91 : Int))
      else
        lt (x27.2.2 != (0 : Int)) fun x30 =>
        if x30 = true then
          st x1 (.agg (Agg.cells (Tapi_Frame.mk false (0 : Int) false (0 : Int) (0 : Int) (0 : Int) (0 : Int) (ByteArray.mk #[]))).toArray) <|
          ldG (α := Tapi_Frame) x1 fun r31 =>
          ret (r31, (0 : Int), (90 : Int))
        else
          bnd (
            if (decide (a1 < (0 : Int))) = true then
              ret true
            else
              ret (decide ((IntKind.wrap .u64 a1) < x27.1))) fun (x32 : Bool) =>
          if x32 = true then
            st x1 (.agg (Agg.cells (Tapi_Frame.mk false (0 : Int) false (0 : Int) (0 : Int) (0 : Int) (0 : Int) (ByteArray.mk #[]))).toArray) <|
            ldG (α := Tapi_Frame) x1 fun r33 =>
            ret (r33, (0 : Int), (92 : Int))
          else
            lt (IntKind.wrap .i64 ((1 : Int) + x27.2.1)) fun x34 =>
            ixA a0 (1 : Int) 1 fun x35 =>
            ldI .u8 x35 fun x36 =>
            st (x9.add 2) (.bool ((andI .u8 x36 (128 : Int)) != (0 : Int))) <|
            ldB (x9.add 2) fun x37 =>
            bnd (
              if x37 = true then
                if (decide ((a0.n : Int) < (IntKind.wrap .i64 (x34 + (4 : Int))))) = true then
                  st x1 (.agg (Agg.cells (Tapi_Frame.mk false (0 : Int) false (0 : Int) (0 : Int) (0 : Int) (0 : Int) (ByteArray.mk #[]))).toArray) <|
                  inr (
                    ldG (α := Tapi_Frame) x1 fun r43 =>
                    ret (r43, (0 : Int), (90 : Int)))
                else
                  drw <|
                  slA (x9.add 3) 4 none none 1 fun x44 =>
                  slS a0 (some x34) none none 1 fun x45 =>
                  cpy 1 x44 x45 fun x46 =>
                  lt (IntKind.wrap .i64 (x34 + x46)) fun x47 =>
                  ret (.inl (x47))
              else
                ret (.inl (x34))) (sumK fun (s48 : Int) =>
            if (decide ((IntKind.wrap .u64 (IntKind.wrap .i64 ((a0.n : Int) - s48))) < x27.1)) = true then
              st x1 (.agg (Agg.cells (Tapi_Frame.mk false (0 : Int) false (0 : Int) (0 : Int) (0 : Int) (0 : Int) (ByteArray.mk #[]))).toArray) <|
              ldG (α := Tapi_Frame) x1 fun r49 =>
              ret (r49, (0 : Int), (90 : Int))
            else
              lt (IntKind.wrap .i64 (s48 + (IntKind.wrap .i64 x27.1))) fun x50 =>
              drw <|
              ldG (α := A4u8) (x9.add 3) fun x51 =>
              slS a0 (some s48) (some x50) none 1 fun x52 =>
              bnd (mask_Apply K x51 (0 : Int) x52) fun x53 =>
              strOf x53 fun x54 =>
              st (x9.add 7) (.string x54) <|
              ldG (α := Tapi_Frame) x9 fun x55 =>
              st x1 (.agg (Agg.cells x55).toArray) <|
              ldG (α := Tapi_Frame) x1 fun r56 =>
              ret (r56, x50, (0 : Int)))
set_option maxRecDepth 100000 in
theorem frame_Get_ref (K : Nat) (a0 : Sl) (a1 : Int) : Does Try.prog 64 [.slice a0.a a0.n a0.c, .int .i64 a1] (frame_Get K a0 a1) (fun r => .tuple #[.agg (Agg.cells r.1).toArray, .int .i64 r.2.1, .int .i64 r.2.2]) := by
  refine Does.of Try.func64 rfl rfl rfl ?_
  unfold frame_Get
  refine RefC.seq ?_
  refine RefC.region ?_
  refine RefL.hv rfl rfl (Hv.newZ Try.zeroValue59 rfl fun x1 => ?_)
  refine RefL.pure rfl rfl (RanP.assign rfl) ?_
  refine RefL.pure rfl rfl (RanP.assign rfl) ?_
  refine RefL.nil ?_
  refine RefE.next ?_
  refine RefC.seq ?_
  refine RefC.seq ?_
  refine RefC.region ?_
  refine RefL.pure rfl rfl (RanP.move rfl) ?_
  refine RefL.pure rfl rfl (RanP.lenSl rfl Try.underlying36 rfl) ?_
  refine RefL.pure rfl rfl (RanP.eql rfl rfl) ?_
  refine RefL.nil ?_
  refine RefE.next ?_
  refine RefC.cond rfl ?_ ?_
  · refine RefC.seq ?_
    refine RefC.region ?_
    refine RefL.pure rfl rfl (RanP.build rfl (v := .agg (Agg.cells (Tapi_Frame.mk false (0 : Int) false (0 : Int) (0 : Int) (0 : Int) (0 : Int) (ByteArray.mk #[]))).toArray) (fun _ => by kernel_rfl)) ?_
    refine RefL.hv rfl rfl (Hv.st Try.sizeOf59 rfl rfl rfl ?_)
    refine RefL.pure rfl rfl (RanP.assign rfl) ?_
    refine RefL.pure rfl rfl (RanP.assign rfl) ?_
    refine RefL.nil ?_
    refine RefE.next ?_
    refine RefC.ret ?_
    refine RefE.thenRet ?_
    refine RefE.retV rfl ?_
    refine RefV.cellG Try.isAgg59 Try.sizeOf59 rfl fun r2 => ?_
    refine RefV.tmp rfl ?_
    refine RefV.tmp rfl ?_
    exact RefV.nil rfl
  · refine RefC.skip ?_
    refine RefE.next ?_
    refine RefC.seq ?_
    refine RefC.draw mixed [0, 1, 3, 7, 15, 0, 32, 96, 224, 480, 1023, 0, 4095] [.lp 0, .lp 1, .li 2, .lp 3, .lp 4, .lp 5, .lp 6, .li 7, .lp 8, .lp 9, .lp 10, .hv 11, .re 2, .re 7, .hv 12] (by kernel_rfl) ?_
    refine RefD.pure (at_ rfl) rfl (RanP.move rfl) ?_
    refine RefD.any (at_ rfl) rfl (Lt.ixA Try.underlying36 Try.sizeOf5 rfl rfl fun x3 => ?_)
    refine RefD.li (at_ rfl) rfl fun w5 => (Lt.ldI Try.isAgg5 rfl fun x4 => ?_)
    refine RefD.pure (at_ rfl) rfl (RanP.and rfl rfl) ?_
    refine RefD.pure (at_ rfl) rfl (RanP.neq rfl rfl) ?_
    refine RefD.pure (at_ rfl) rfl (RanP.move rfl) ?_
    refine RefD.any (at_ rfl) rfl (Lt.ixA Try.underlying36 Try.sizeOf5 rfl rfl fun x6 => ?_)
    refine RefD.li (at_ rfl) rfl fun w8 => (Lt.ldI Try.isAgg5 rfl fun x7 => ?_)
    refine RefD.pure (at_ rfl) rfl (RanP.and rfl rfl) ?_
    refine RefD.pure (at_ rfl) rfl (RanP.conv Try.underlying5 Try.underlying3 rfl) ?_
    refine RefD.pure (at_ rfl) rfl (RanP.build rfl (v := .agg (Agg.cells (Tapi_Frame.mk ((andI .u8 x4 (128 : Int)) != (0 : Int)) (IntKind.wrap .i64 (andI .u8 x7 (15 : Int))) false (0 : Int) (0 : Int) (0 : Int) (0 : Int) (ByteArray.mk #[]))).toArray) (fun _ => by kernel_rfl)) ?_
    refine RefD.hv (at_ rfl) rfl (Hv.newZ Try.zeroValue59 rfl fun x9 => ?_)
    refine RefD.re rfl ?_
    refine RefD.re rfl ?_
    refine RefD.hv (at_ rfl) rfl (Hv.st Try.sizeOf59 rfl rfl rfl ?_)
    refine RefD.nil ?_
    refine RefE.next ?_
    refine RefC.seq ?_
    refine RefC.region ?_
    refine RefL.pure rfl rfl (RanP.fieldAddr fa_59_1 rfl) ?_
    refine RefL.li rfl rfl (Lt.ldI Try.isAgg3 rfl fun x10 => ?_)
    refine RefL.hv rfl rfl (Hv.call (frame_Control_ref K x10) Try.call68 rfl rfl rfl fun x11 => ?_)
    refine RefL.pure rfl rfl (RanP.assign rfl) ?_
    refine RefL.nil ?_
    refine RefE.next ?_
    refine RefC.seq ?_
    refine RefC.seq ?_
    refine RefC.region ?_
    refine RefL.pure rfl rfl (RanP.move rfl) ?_
    refine RefL.li rfl rfl (Lt.ixA Try.underlying36 Try.sizeOf5 rfl rfl fun x12 => ?_)
    refine RefL.li rfl rfl (Lt.ldI Try.isAgg5 rfl fun x13 => ?_)
    refine RefL.pure rfl rfl (RanP.and rfl rfl) ?_
    refine RefL.pure rfl rfl (RanP.neq rfl rfl) ?_
    refine RefL.pure rfl rfl (RanP.move rfl) ?_
    refine RefL.cut (enc := fun (x14 : Bool) => ([(42, .bool x14), (0, .slice a0.a a0.n a0.c), (1, .int .i64 a1), (4, .pointer (some x1)), (7, .pointer (some x9)), (8, .bool x11)] : Env)) 5 ?_ ?_
    · refine RefL.ite (s := 37) rfl ?_ ?_
      · refine RefL.skip rfl rfl ?_
        refine RefL.skip rfl rfl ?_
        refine RefL.skip rfl rfl ?_
        refine RefL.skip rfl rfl ?_
        refine RefL.pure rfl rfl (RanP.pickT rfl rfl) ?_
        refine RefL.nil ?_
        exact RefE.fin (s := true) ⟨rfl, rfl, rfl, rfl, rfl, rfl, trivial⟩
      · refine RefL.pure rfl rfl (RanP.fieldAddr fa_59_1 rfl) ?_
        refine RefL.li rfl rfl (Lt.ldI Try.isAgg3 rfl fun x15 => ?_)
        refine RefL.hv rfl rfl (Hv.call (frame_known_ref K x15) Try.call86 rfl rfl rfl fun x16 => ?_)
        refine RefL.pure rfl rfl (RanP.not rfl) ?_
        refine RefL.pure rfl rfl (RanP.pickF rfl rfl) ?_
        refine RefL.nil ?_
        exact RefE.fin (s := (!x16)) ⟨rfl, rfl, rfl, rfl, rfl, rfl, trivial⟩
    · intro x14
      refine RefL.pure rfl rfl (RanP.move rfl) ?_
      refine RefL.cut (enc := fun (x17 : Bool) => ([(50, .bool x17), (0, .slice a0.a a0.n a0.c), (1, .int .i64 a1), (4, .pointer (some x1)), (7, .pointer (some x9)), (8, .bool x11)] : Env)) 7 ?_ ?_
      · refine RefL.ite (s := 43) rfl ?_ ?_
        · refine RefL.skip rfl rfl ?_
          refine RefL.skip rfl rfl ?_
          refine RefL.skip rfl rfl ?_
          refine RefL.skip rfl rfl ?_
          refine RefL.skip rfl rfl ?_
          refine RefL.skip rfl rfl ?_
          refine RefL.pure rfl rfl (RanP.pickT rfl rfl) ?_
          refine RefL.nil ?_
          exact RefE.fin (s := true) ⟨rfl, rfl, rfl, rfl, rfl, rfl, trivial⟩
        · refine RefL.pure rfl rfl (RanP.move rfl) ?_
          refine RefL.pure rfl rfl (RanP.move rfl) ?_
          refine RefL.cut (enc := fun (x18 : Bool) => ([(49, .bool x18), (0, .slice a0.a a0.n a0.c), (1, .int .i64 a1), (4, .pointer (some x1)), (7, .pointer (some x9)), (8, .bool x11), (43, .bool false)] : Env)) 4 ?_ ?_
          · refine RefL.ite (s := 45) rfl ?_ ?_
            · refine RefL.pure rfl rfl (RanP.fieldAddr fa_59_0 rfl) ?_
              refine RefL.li rfl rfl (Lt.ldB Try.isAgg4 rfl fun x19 => ?_)
              refine RefL.pure rfl rfl (RanP.not rfl) ?_
              refine RefL.pure rfl rfl (RanP.pickT rfl rfl) ?_
              refine RefL.nil ?_
              exact RefE.fin (s := (!x19)) ⟨rfl, rfl, rfl, rfl, rfl, rfl, rfl, trivial⟩
            · refine RefL.skip rfl rfl ?_
              refine RefL.skip rfl rfl ?_
              refine RefL.skip rfl rfl ?_
              refine RefL.pure rfl rfl (RanP.pickF rfl rfl) ?_
              refine RefL.nil ?_
              exact RefE.fin (s := false) ⟨rfl, rfl, rfl, rfl, rfl, rfl, rfl, trivial⟩
          · intro x18
            refine RefL.pure rfl rfl (RanP.pickF rfl rfl) ?_
            refine RefL.nil ?_
            exact RefE.fin (s := x18) ⟨rfl, rfl, rfl, rfl, rfl, rfl, trivial⟩
      · intro x17
        refine RefL.pure rfl rfl (RanP.move rfl) ?_
        refine RefL.cut (enc := fun (x20 : Bool) => ([(65, .bool x20), (0, .slice a0.a a0.n a0.c), (1, .int .i64 a1), (4, .pointer (some x1)), (7, .pointer (some x9))] : Env)) 14 ?_ ?_
        · refine RefL.ite (s := 51) rfl ?_ ?_
          · refine RefL.skip rfl rfl ?_
            refine RefL.skip rfl rfl ?_
            refine RefL.skip rfl rfl ?_
            refine RefL.skip rfl rfl ?_
            refine RefL.skip rfl rfl ?_
            refine RefL.skip rfl rfl ?_
            refine RefL.skip rfl rfl ?_
            refine RefL.skip rfl rfl ?_
            refine RefL.skip rfl rfl ?_
            refine RefL.skip rfl rfl ?_
            refine RefL.skip rfl rfl ?_
            refine RefL.skip rfl rfl ?_
            refine RefL.skip rfl rfl ?_
            refine RefL.pure rfl rfl (RanP.pickT rfl rfl) ?_
            refine RefL.nil ?_
            exact RefE.fin (s := true) ⟨rfl, rfl, rfl, rfl, rfl, trivial⟩
          · refine RefL.pure rfl rfl (RanP.move rfl) ?_
            refine RefL.pure rfl rfl (RanP.move rfl) ?_
            refine RefL.cut (enc := fun (x21 : Bool) => ([(57, .bool x21), (0, .slice a0.a a0.n a0.c), (1, .int .i64 a1), (4, .pointer (some x1)), (7, .pointer (some x9)), (51, .bool false)] : Env)) 4 ?_ ?_
            · refine RefL.ite (s := 53) rfl ?_ ?_
              · refine RefL.pure rfl rfl (RanP.move rfl) ?_
                refine RefL.pure rfl rfl (RanP.lenSl rfl Try.underlying36 rfl) ?_
                refine RefL.pure rfl rfl (RanP.gtr rfl rfl) ?_
                refine RefL.pure rfl rfl (RanP.pickT rfl rfl) ?_
                refine RefL.nil ?_
                exact RefE.fin (s := (decide ((1 : Int) < (a0.n : Int)))) ⟨rfl, rfl, rfl, rfl, rfl, rfl, trivial⟩
              · refine RefL.skip rfl rfl ?_
                refine RefL.skip rfl rfl ?_
                refine RefL.skip rfl rfl ?_
                refine RefL.pure rfl rfl (RanP.pickF rfl rfl) ?_
                refine RefL.nil ?_
                exact RefE.fin (s := false) ⟨rfl, rfl, rfl, rfl, rfl, rfl, trivial⟩
            · intro x21
              refine RefL.pure rfl rfl (RanP.move rfl) ?_
              refine RefL.cut (enc := fun (x22 : Bool) => ([(64, .bool x22), (0, .slice a0.a a0.n a0.c), (1, .int .i64 a1), (4, .pointer (some x1)), (7, .pointer (some x9)), (51, .bool false)] : Env)) 6 ?_ ?_
              · refine RefL.ite (s := 58) rfl ?_ ?_
                · refine RefL.pure rfl rfl (RanP.move rfl) ?_
                  refine RefL.li rfl rfl (Lt.ixA Try.underlying36 Try.sizeOf5 rfl rfl fun x23 => ?_)
                  refine RefL.li rfl rfl (Lt.ldI Try.isAgg5 rfl fun x24 => ?_)
                  refine RefL.pure rfl rfl (RanP.and rfl rfl) ?_
                  refine RefL.pure rfl rfl (RanP.gtr rfl rfl) ?_
                  refine RefL.pure rfl rfl (RanP.pickT rfl rfl) ?_
                  refine RefL.nil ?_
                  exact RefE.fin (s := (decide ((125 : Int) < (andI .u8 x24 (127 : Int))))) ⟨rfl, rfl, rfl, rfl, rfl, rfl, trivial⟩
                · refine RefL.skip rfl rfl ?_
                  refine RefL.skip rfl rfl ?_
                  refine RefL.skip rfl rfl ?_
                  refine RefL.skip rfl rfl ?_
                  refine RefL.skip rfl rfl ?_
                  refine RefL.pure rfl rfl (RanP.pickF rfl rfl) ?_
                  refine RefL.nil ?_
                  exact RefE.fin (s := false) ⟨rfl, rfl, rfl, rfl, rfl, rfl, trivial⟩
              · intro x22
                refine RefL.pure rfl rfl (RanP.pickF rfl rfl) ?_
                refine RefL.nil ?_
                exact RefE.fin (s := x22) ⟨rfl, rfl, rfl, rfl, rfl, trivial⟩
        · intro x20
          refine RefL.nil ?_
          refine RefE.next ?_
          refine RefC.cond rfl ?_ ?_
          · refine RefC.seq ?_
            refine RefC.region ?_
            refine RefL.pure rfl rfl (RanP.build rfl (v := .agg (Agg.cells (Tapi_Frame.mk false (0 : Int) false (0 : Int) (0 : Int) (0 : Int) (0 : Int) (ByteArray.mk #[]))).toArray) (fun _ => by kernel_rfl)) ?_
            refine RefL.hv rfl rfl (Hv.st Try.sizeOf59 rfl rfl rfl ?_)
            refine RefL.pure rfl rfl (RanP.assign rfl) ?_
            refine RefL.pure rfl rfl (RanP.assign rfl) ?_
            refine RefL.nil ?_
            refine RefE.next ?_
            refine RefC.ret ?_
            refine RefE.thenRet ?_
            refine RefE.retV rfl ?_
            refine RefV.cellG Try.isAgg59 Try.sizeOf59 rfl fun r25 => ?_
            refine RefV.tmp rfl ?_
            refine RefV.tmp rfl ?_
            exact RefV.nil rfl
          · refine RefC.skip ?_
            refine RefE.next ?_
            refine RefC.seq ?_
            refine RefC.region ?_
            refine RefL.pure rfl rfl (RanP.move rfl) ?_
            refine RefL.li rfl rfl (Lt.slS (kl := .i64) (kh := .i64) (km := .i64) Try.underlying36 Try.sizeOf5 rfl rfl rfl rfl (by simp) fun x26 => ?_)
            refine RefL.hv rfl rfl (Hv.call (mask_Get_ref K x26) Try.call87 rfl rfl rfl fun x27 => ?_)
            refine RefL.pure rfl rfl (RanP.move rfl) ?_
            refine RefL.pure rfl rfl (RanP.extract rfl rfl) ?_
            refine RefL.pure rfl rfl (RanP.extract rfl rfl) ?_
            refine RefL.pure rfl rfl (RanP.extract rfl rfl) ?_
            refine RefL.pure rfl rfl (RanP.assign rfl) ?_
            refine RefL.pure rfl rfl (RanP.assign rfl) ?_
            refine RefL.pure rfl rfl (RanP.assign rfl) ?_
            refine RefL.nil ?_
            refine RefE.next ?_
            refine RefC.seq ?_
            refine RefC.block ?_
            refine RefC.seq ?_
            refine RefC.region ?_
            refine RefL.pure rfl rfl (RanP.move rfl) ?_
            refine RefL.pure rfl rfl (RanP.eql rfl rfl) ?_
            refine RefL.pure rfl rfl (RanP.assign rfl) ?_
            refine RefL.lt 74 (fun y => .bool y) rfl fun x28 => ?_
            refine RefL.nil ?_
            refine RefE.next ?_
            refine RefC.cond rfl ?_ ?_
            · refine RefC.seq ?_
              refine RefC.region ?_
              refine RefL.pure rfl rfl (RanP.build rfl (v := .agg (Agg.cells (Tapi_Frame.mk false (0 : Int) false (0 : Int) (0 : Int) (0 : Int) (0 : Int) (ByteArray.mk #[]))).toArray) (fun _ => by kernel_rfl)) ?_
              refine RefL.hv rfl rfl (Hv.st Try.sizeOf59 rfl rfl rfl ?_)
              refine RefL.pure rfl rfl (RanP.assign rfl) ?_
              refine RefL.pure rfl rfl (RanP.assign rfl) ?_
              refine RefL.nil ?_
              refine RefE.next ?_
              refine RefC.ret ?_
              refine RefE.blockRet ?_
              refine RefE.thenRet ?_
              refine RefE.retV rfl ?_
              refine RefV.cellG Try.isAgg59 Try.sizeOf59 rfl fun r29 => ?_
              refine RefV.tmp rfl ?_
              refine RefV.tmp rfl ?_
              exact RefV.nil rfl
            · refine RefC.seq ?_
              refine RefC.region ?_
              refine RefL.pure rfl rfl (RanP.move rfl) ?_
              refine RefL.pure rfl rfl (RanP.neq rfl rfl) ?_
              refine RefL.pure rfl rfl (RanP.assign rfl) ?_
              refine RefL.lt 78 (fun y => .bool y) rfl fun x30 => ?_
              refine RefL.nil ?_
              refine RefE.next ?_
              refine RefC.cond rfl ?_ ?_
              · refine RefC.seq ?_
                refine RefC.region ?_
                refine RefL.pure rfl rfl (RanP.build rfl (v := .agg (Agg.cells (Tapi_Frame.mk false (0 : Int) false (0 : Int) (0 : Int) (0 : Int) (0 : Int) (ByteArray.mk #[]))).toArray) (fun _ => by kernel_rfl)) ?_
                refine RefL.hv rfl rfl (Hv.st Try.sizeOf59 rfl rfl rfl ?_)
                refine RefL.pure rfl rfl (RanP.assign rfl) ?_
                refine RefL.pure rfl rfl (RanP.assign rfl) ?_
                refine RefL.nil ?_
                refine RefE.next ?_
                refine RefC.ret ?_
                refine RefE.blockRet ?_
                refine RefE.thenRet ?_
                refine RefE.retV rfl ?_
                refine RefV.cellG Try.isAgg59 Try.sizeOf59 rfl fun r31 => ?_
                refine RefV.tmp rfl ?_
                refine RefV.tmp rfl ?_
                exact RefV.nil rfl
              · refine RefC.seq ?_
                refine RefC.region ?_
                refine RefL.pure rfl rfl (RanP.move rfl) ?_
                refine RefL.pure rfl rfl (RanP.lss rfl rfl) ?_
                refine RefL.pure rfl rfl (RanP.move rfl) ?_
                refine RefL.cut (enc := fun (x32 : Bool) => ([(90, .bool x32), (0, .slice a0.a a0.n a0.c), (4, .pointer (some x1)), (7, .pointer (some x9)), (9, .int .u64 x27.1), (10, .int .i64 x27.2.1)] : Env)) 5 ?_ ?_
                · refine RefL.ite (s := 85) rfl ?_ ?_
                  · refine RefL.skip rfl rfl ?_
                    refine RefL.skip rfl rfl ?_
                    refine RefL.skip rfl rfl ?_
                    refine RefL.skip rfl rfl ?_
                    refine RefL.pure rfl rfl (RanP.pickT rfl rfl) ?_
                    refine RefL.nil ?_
                    exact RefE.fin (s := true) ⟨rfl, rfl, rfl, rfl, rfl, rfl, trivial⟩
                  · refine RefL.pure rfl rfl (RanP.move rfl) ?_
                    refine RefL.pure rfl rfl (RanP.move rfl) ?_
                    refine RefL.pure rfl rfl (RanP.conv Try.underlying3 Try.underlying133 rfl) ?_
                    refine RefL.pure rfl rfl (RanP.gtr rfl rfl) ?_
                    refine RefL.pure rfl rfl (RanP.pickF rfl rfl) ?_
                    refine RefL.nil ?_
                    exact RefE.fin (s := (decide ((IntKind.wrap .u64 a1) < x27.1))) ⟨rfl, rfl, rfl, rfl, rfl, rfl, trivial⟩
                · intro x32
                  refine RefL.pure rfl rfl (RanP.assign rfl) ?_
                  refine RefL.nil ?_
                  refine RefE.next ?_
                  refine RefC.cond rfl ?_ ?_
                  · refine RefC.seq ?_
                    refine RefC.region ?_
                    refine RefL.pure rfl rfl (RanP.build rfl (v := .agg (Agg.cells (Tapi_Frame.mk false (0 : Int) false (0 : Int) (0 : Int) (0 : Int) (0 : Int) (ByteArray.mk #[]))).toArray) (fun _ => by kernel_rfl)) ?_
                    refine RefL.hv rfl rfl (Hv.st Try.sizeOf59 rfl rfl rfl ?_)
                    refine RefL.pure rfl rfl (RanP.assign rfl) ?_
                    refine RefL.pure rfl rfl (RanP.assign rfl) ?_
                    refine RefL.nil ?_
                    refine RefE.next ?_
                    refine RefC.ret ?_
                    refine RefE.blockRet ?_
                    refine RefE.thenRet ?_
                    refine RefE.retV rfl ?_
                    refine RefV.cellG Try.isAgg59 Try.sizeOf59 rfl fun r33 => ?_
                    refine RefV.tmp rfl ?_
                    refine RefV.tmp rfl ?_
                    exact RefV.nil rfl
                  · refine RefC.skip ?_
                    refine RefE.blockNormal ?_
                    refine RefE.next ?_
                    refine RefC.seq ?_
                    refine RefC.region ?_
                    refine RefL.pure rfl rfl (RanP.move rfl) ?_
                    refine RefL.pure rfl rfl (RanP.add rfl rfl) ?_
                    refine RefL.pure rfl rfl (RanP.assign rfl) ?_
                    refine RefL.lt 12 (fun y => .int .i64 y) rfl fun x34 => ?_
                    refine RefL.nil ?_
                    refine RefE.next ?_
                    refine RefC.seq ?_
                    refine RefC.region ?_
                    refine RefL.pure rfl rfl (RanP.move rfl) ?_
                    refine RefL.li rfl rfl (Lt.ixA Try.underlying36 Try.sizeOf5 rfl rfl fun x35 => ?_)
                    refine RefL.li rfl rfl (Lt.ldI Try.isAgg5 rfl fun x36 => ?_)
                    refine RefL.pure rfl rfl (RanP.and rfl rfl) ?_
                    refine RefL.pure rfl rfl (RanP.neq rfl rfl) ?_
                    refine RefL.pure rfl rfl (RanP.fieldAddr fa_59_2 rfl) ?_
                    refine RefL.hv rfl rfl (Hv.st Try.sizeOf4 rfl rfl rfl ?_)
                    refine RefL.nil ?_
                    refine RefE.next ?_
                    refine RefC.seq ?_
                    refine RefC.seq ?_
                    refine RefC.region ?_
                    refine RefL.pure rfl rfl (RanP.fieldAddr fa_59_2 rfl) ?_
                    refine RefL.li rfl rfl (Lt.ldB Try.isAgg4 rfl fun x37 => ?_)
                    refine RefL.nil ?_
                    refine RefE.next ?_
                    refine RefC.cutSum (enc := fun (s48 : Int) => ([(12, .int .i64 s48), (0, .slice a0.a a0.n a0.c), (4, .pointer (some x1)), (7, .pointer (some x9)), (9, .int .u64 x27.1)] : Env)) (KThen.mono KRet.mono) ?_ ?_
                    · refine RefC.cond rfl ?_ ?_
                      · refine RefC.seq ?_
                        refine RefC.seq ?_
                        refine RefC.region ?_
                        refine RefL.pure rfl rfl (RanP.move rfl) ?_
                        refine RefL.pure rfl rfl (RanP.lenSl rfl Try.underlying36 rfl) ?_
                        refine RefL.pure rfl rfl (RanP.move rfl) ?_
                        refine RefL.pure rfl rfl (RanP.add rfl rfl) ?_
                        refine RefL.pure rfl rfl (RanP.lss rfl rfl) ?_
                        refine RefL.nil ?_
                        refine RefE.next ?_
                        refine RefC.cond rfl ?_ ?_
                        · refine RefC.seq ?_
                          refine RefC.region ?_
                          refine RefL.pure rfl rfl (RanP.build rfl (v := .agg (Agg.cells (Tapi_Frame.mk false (0 : Int) false (0 : Int) (0 : Int) (0 : Int) (0 : Int) (ByteArray.mk #[]))).toArray) (fun _ => by kernel_rfl)) ?_
                          refine RefL.hv rfl rfl (Hv.st Try.sizeOf59 rfl rfl rfl ?_)
                          refine RefL.pure rfl rfl (RanP.assign rfl) ?_
                          refine RefL.pure rfl rfl (RanP.assign rfl) ?_
                          refine RefL.nil ?_
                          refine RefE.next ?_
                          refine RefC.ret ?_
                          refine RefE.thenRet ?_
                          refine RefE.finR ?_
                          refine RefE.thenRet ?_
                          refine RefE.retV rfl ?_
                          refine RefV.cellG Try.isAgg59 Try.sizeOf59 rfl fun r43 => ?_
                          refine RefV.tmp rfl ?_
                          refine RefV.tmp rfl ?_
                          exact RefV.nil rfl
                        · refine RefC.skip ?_
                          refine RefE.next ?_
                          refine RefC.draw mixed [0, 0, 2, 0, 0, 24, 62, 127, 255] [.lp 0, .lp 1, .lp 2, .lp 3, .lp 4, .lp 5, .hv 6, .lp 7, .lp 8] (by kernel_rfl) ?_
                          refine RefD.pure (at_ rfl) rfl (RanP.move rfl) ?_
                          refine RefD.pure (at_ rfl) rfl (RanP.fieldAddr fa_59_3 rfl) ?_
                          refine RefD.any (at_ rfl) rfl (Lt.slA (kl := .i64) (kh := .i64) Try.underlying57 Try.sizeOf5 rfl rfl rfl fun x44 => ?_)
                          refine RefD.pure (at_ rfl) rfl (RanP.move rfl) ?_
                          refine RefD.pure (at_ rfl) rfl (RanP.move rfl) ?_
                          refine RefD.any (at_ rfl) rfl (Lt.slS (kl := .i64) (kh := .i64) (km := .i64) Try.underlying36 Try.sizeOf5 rfl rfl rfl rfl (by simp) fun x45 => ?_)
                          refine RefD.hv (at_ rfl) rfl (Hv.cpy rfl Try.underlying36 Try.sizeOf5 rfl fun x46 => ?_)
                          refine RefD.pure (at_ rfl) rfl (RanP.add rfl rfl) ?_
                          refine RefD.pure (at_ rfl) rfl (RanP.assign rfl) ?_
                          refine RefD.lt 12 (fun y => .int .i64 y) rfl fun x47 => ?_
                          refine RefD.nil ?_
                          exact RefE.finL (s := (x47)) ⟨rfl, rfl, rfl, rfl, rfl, trivial⟩
                      · refine RefC.skip ?_
                        exact RefE.finL (s := (x34)) ⟨rfl, rfl, rfl, rfl, rfl, trivial⟩
                    · intro s48
                      refine RefE.next ?_
                      refine RefC.seq ?_
                      refine RefC.seq ?_
                      refine RefC.region ?_
                      refine RefL.pure rfl rfl (RanP.move rfl) ?_
                      refine RefL.pure rfl rfl (RanP.lenSl rfl Try.underlying36 rfl) ?_
                      refine RefL.pure rfl rfl (RanP.move rfl) ?_
                      refine RefL.pure rfl rfl (RanP.sub rfl rfl) ?_
                      refine RefL.pure rfl rfl (RanP.conv Try.underlying3 Try.underlying133 rfl) ?_
                      refine RefL.pure rfl rfl (RanP.move rfl) ?_
                      refine RefL.pure rfl rfl (RanP.lss rfl rfl) ?_
                      refine RefL.nil ?_
                      refine RefE.next ?_
                      refine RefC.cond rfl ?_ ?_
                      · refine RefC.seq ?_
                        refine RefC.region ?_
                        refine RefL.pure rfl rfl (RanP.build rfl (v := .agg (Agg.cells (Tapi_Frame.mk false (0 : Int) false (0 : Int) (0 : Int) (0 : Int) (0 : Int) (ByteArray.mk #[]))).toArray) (fun _ => by kernel_rfl)) ?_
                        refine RefL.hv rfl rfl (Hv.st Try.sizeOf59 rfl rfl rfl ?_)
                        refine RefL.pure rfl rfl (RanP.assign rfl) ?_
                        refine RefL.pure rfl rfl (RanP.assign rfl) ?_
                        refine RefL.nil ?_
                        refine RefE.next ?_
                        refine RefC.ret ?_
                        refine RefE.thenRet ?_
                        refine RefE.retV rfl ?_
                        refine RefV.cellG Try.isAgg59 Try.sizeOf59 rfl fun r49 => ?_
                        refine RefV.tmp rfl ?_
                        refine RefV.tmp rfl ?_
                        exact RefV.nil rfl
                      · refine RefC.skip ?_
                        refine RefE.next ?_
                        refine RefC.seq ?_
                        refine RefC.region ?_
                        refine RefL.pure rfl rfl (RanP.move rfl) ?_
                        refine RefL.pure rfl rfl (RanP.move rfl) ?_
                        refine RefL.pure rfl rfl (RanP.conv Try.underlying133 Try.underlying3 rfl) ?_
                        refine RefL.pure rfl rfl (RanP.add rfl rfl) ?_
                        refine RefL.pure rfl rfl (RanP.assign rfl) ?_
                        refine RefL.lt 13 (fun y => .int .i64 y) rfl fun x50 => ?_
                        refine RefL.nil ?_
                        refine RefE.next ?_
                        refine RefC.seq ?_
                        refine RefC.draw mixed [0, 1, 0, 0, 0, 28, 63, 127, 255, 511] [.lp 0, .li 1, .lp 2, .lp 3, .lp 4, .lp 5, .hv 6, .li 7, .lp 8, .hv 9] (by kernel_rfl) ?_
                        refine RefD.pure (at_ rfl) rfl (RanP.fieldAddr fa_59_3 rfl) ?_
                        refine RefD.li0 (at_ rfl) rfl (Lt.ldG (τ := A4u8) Try.isAgg57 Try.sizeOf57 rfl fun x51 => ?_)
                        refine RefD.pure (at_ rfl) rfl (RanP.move rfl) ?_
                        refine RefD.pure (at_ rfl) rfl (RanP.move rfl) ?_
                        refine RefD.pure (at_ rfl) rfl (RanP.move rfl) ?_
                        refine RefD.any (at_ rfl) rfl (Lt.slS (kl := .i64) (kh := .i64) (km := .i64) Try.underlying36 Try.sizeOf5 rfl rfl rfl rfl (by simp) fun x52 => ?_)
                        refine RefD.hv (at_ rfl) rfl (Hv.call (mask_Apply_ref K x51 (0 : Int) x52) Try.call77 rfl rfl rfl fun x53 => ?_)
                        refine RefD.li0 (at_ rfl) rfl (Lt.strOf Try.underlying36 Try.underlying9 Try.underlying5 rfl fun x54 => ?_)
                        refine RefD.pure (at_ rfl) rfl (RanP.fieldAddr fa_59_4 rfl) ?_
                        refine RefD.hv (at_ rfl) rfl (Hv.st Try.sizeOf9 rfl rfl rfl ?_)
                        refine RefD.nil ?_
                        refine RefE.next ?_
                        refine RefC.seq ?_
                        refine RefC.region ?_
                        refine RefL.li rfl rfl (Lt.ldG (τ := Tapi_Frame) Try.isAgg59 Try.sizeOf59 rfl fun x55 => ?_)
                        refine RefL.pure rfl rfl (RanP.move rfl) ?_
                        refine RefL.hv rfl rfl (Hv.st Try.sizeOf59 rfl rfl rfl ?_)
                        refine RefL.pure rfl rfl (RanP.assign rfl) ?_
                        refine RefL.pure rfl rfl (RanP.assign rfl) ?_
                        refine RefL.nil ?_
                        refine RefE.next ?_
                        refine RefC.ret ?_
                        refine RefE.retV rfl ?_
                        refine RefV.cellG Try.isAgg59 Try.sizeOf59 rfl fun r56 => ?_
                        refine RefV.tmp rfl ?_
                        refine RefV.tmp rfl ?_
                        exact RefV.nil rfl

end Go.Proofs.Ytjdnjlnfcbaokaa

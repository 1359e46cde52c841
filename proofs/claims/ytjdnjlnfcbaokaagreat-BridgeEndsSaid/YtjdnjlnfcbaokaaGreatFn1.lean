/-
  Go functions as programs over the world, and that the model's code does what they say. Printed by gen.py (own work).
-/
import Derived.Test.YtjdnjlnfcbaokaaGreatFn0
set_option linter.unusedVariables false
set_option linter.unusedSimpArgs false
namespace Go.Proofs.YtjdnjlnfcbaokaaGreat
open Go Go.Lg

def stream_New (K : Nat) (a0 : Bool) (a1 : Int) : G (Option Addr × Int) :=
  bnd (
    if (decide (a1 < (125 : Int))) = true then
      ret true
    else
      ret (decide ((65536 : Int) < a1))) fun (x1 : Bool) =>
  if x1 = true then
    ret (none, (101 : Int))
  else
    new (Agg.cells (Tstream_Stream.mk a0 a1 Sl.nil (0 : Int))) 159 fun x2 =>
    ret ((some x2), (0 : Int))
set_option maxRecDepth 100000 in
theorem stream_New_ref (K : Nat) (a0 : Bool) (a1 : Int) : Does Tryz.prog 58 [.bool a0, .int .i64 a1] (stream_New K a0 a1) (fun r => .tuple #[.pointer r.1, .int .i64 r.2]) := by
  refine Does.of Tryz.func58 rfl rfl rfl ?_
  unfold stream_New
  refine RefC.seq ?_
  refine RefC.region ?_
  refine RefL.pure rfl rfl (RanP.assign rfl) ?_
  refine RefL.pure rfl rfl (RanP.assign rfl) ?_
  refine RefL.nil ?_
  refine RefE.next ?_
  refine RefC.seq ?_
  refine RefC.seq ?_
  refine RefC.region ?_
  refine RefL.pure rfl rfl (RanP.move rfl) ?_
  refine RefL.pure rfl rfl (RanP.lss rfl rfl) ?_
  refine RefL.pure rfl rfl (RanP.move rfl) ?_
  refine RefL.cut (enc := fun (x1 : Bool) => ([(11, .bool x1), (0, .bool a0), (1, .int .i64 a1)] : Env)) 3 ?_ ?_
  · refine RefL.ite (s := 8) rfl ?_ ?_
    · refine RefL.skip rfl rfl ?_
      refine RefL.skip rfl rfl ?_
      refine RefL.pure rfl rfl (RanP.pickT rfl rfl) ?_
      refine RefL.nil ?_
      exact RefE.fin (s := true) ⟨rfl, rfl, rfl, trivial⟩
    · refine RefL.pure rfl rfl (RanP.move rfl) ?_
      refine RefL.pure rfl rfl (RanP.gtr rfl rfl) ?_
      refine RefL.pure rfl rfl (RanP.pickF rfl rfl) ?_
      refine RefL.nil ?_
      exact RefE.fin (s := (decide ((65536 : Int) < a1))) ⟨rfl, rfl, rfl, trivial⟩
  · intro x1
    refine RefL.nil ?_
    refine RefE.next ?_
    refine RefC.cond rfl ?_ ?_
    · refine RefC.seq ?_
      refine RefC.region ?_
      refine RefL.pure rfl rfl (RanP.assign rfl) ?_
      refine RefL.pure rfl rfl (RanP.assign rfl) ?_
      refine RefL.nil ?_
      refine RefE.next ?_
      refine RefC.ret ?_
      refine RefE.thenRet ?_
      refine RefE.retV rfl ?_
      refine RefV.tmp rfl ?_
      refine RefV.tmp rfl ?_
      exact RefV.nil rfl
    · refine RefC.skip ?_
      refine RefE.next ?_
      refine RefC.seq ?_
      refine RefC.region ?_
      refine RefL.pure rfl rfl (RanP.move rfl) ?_
      refine RefL.pure rfl rfl (RanP.move rfl) ?_
      refine RefL.pure rfl rfl (RanP.build rfl (v := .agg (Agg.cells (Tstream_Stream.mk a0 a1 Sl.nil (0 : Int))).toArray) (fun _ => by kernel_rfl)) ?_
      refine RefL.hv rfl rfl (Hv.box rfl rfl fun x2 => ?_)
      refine RefL.pure rfl rfl (RanP.assign rfl) ?_
      refine RefL.pure rfl rfl (RanP.assign rfl) ?_
      refine RefL.nil ?_
      refine RefE.next ?_
      refine RefC.ret ?_
      refine RefE.retV rfl ?_
      refine RefV.tmp rfl ?_
      refine RefV.tmp rfl ?_
      exact RefV.nil rfl

def utf_New (K : Nat) : G (Option Addr) :=
  new (Agg.cells (Tutf_Checker.mk (0 : Int) (0 : Int) (0 : Int) (0 : Int) false)) 200 fun x1 =>
  ret (some x1)
set_option maxRecDepth 100000 in
theorem utf_New_ref (K : Nat) : Does Tryz.prog 100 [] (utf_New K) (fun r => .pointer r) := by
  refine Does.of Tryz.func100 rfl rfl rfl ?_
  unfold utf_New
  refine RefC.seq ?_
  refine RefC.region ?_
  refine RefL.pure rfl rfl (RanP.assign rfl) ?_
  refine RefL.nil ?_
  refine RefE.next ?_
  refine RefC.seq ?_
  refine RefC.region ?_
  refine RefL.pure rfl rfl (RanP.build rfl (v := .agg (Agg.cells (Tutf_Checker.mk (0 : Int) (0 : Int) (0 : Int) (0 : Int) false)).toArray) (fun _ => by kernel_rfl)) ?_
  refine RefL.hv rfl rfl (Hv.box rfl rfl fun x1 => ?_)
  refine RefL.pure rfl rfl (RanP.assign rfl) ?_
  refine RefL.nil ?_
  refine RefE.next ?_
  refine RefC.ret ?_
  refine RefE.retV rfl ?_
  refine RefV.tmp rfl ?_
  exact RefV.nil rfl

def msg_New (K : Nat) (a0 : Int) : G (Option Addr × Int) :=
  bnd (
    if (decide (a0 < (1 : Int))) = true then
      ret true
    else
      ret (decide ((1048576 : Int) < a0))) fun (x1 : Bool) =>
  if x1 = true then
    ret (none, (123 : Int))
  else
    bnd (utf_New K) fun x2 =>
    new (Agg.cells (Tmsg_Machine.mk a0 (0 : Int) Sl.nil x2 false (0 : Int))) 163 fun x3 =>
    ret ((some x3), (0 : Int))
set_option maxRecDepth 100000 in
theorem msg_New_ref (K : Nat) (a0 : Int) : Does Tryz.prog 59 [.int .i64 a0] (msg_New K a0) (fun r => .tuple #[.pointer r.1, .int .i64 r.2]) := by
  refine Does.of Tryz.func59 rfl rfl rfl ?_
  unfold msg_New
  refine RefC.seq ?_
  refine RefC.region ?_
  refine RefL.pure rfl rfl (RanP.assign rfl) ?_
  refine RefL.pure rfl rfl (RanP.assign rfl) ?_
  refine RefL.nil ?_
  refine RefE.next ?_
  refine RefC.seq ?_
  refine RefC.seq ?_
  refine RefC.region ?_
  refine RefL.pure rfl rfl (RanP.move rfl) ?_
  refine RefL.pure rfl rfl (RanP.lss rfl rfl) ?_
  refine RefL.pure rfl rfl (RanP.move rfl) ?_
  refine RefL.cut (enc := fun (x1 : Bool) => ([(9, .bool x1), (0, .int .i64 a0)] : Env)) 3 ?_ ?_
  · refine RefL.ite (s := 6) rfl ?_ ?_
    · refine RefL.skip rfl rfl ?_
      refine RefL.skip rfl rfl ?_
      refine RefL.pure rfl rfl (RanP.pickT rfl rfl) ?_
      refine RefL.nil ?_
      exact RefE.fin (s := true) ⟨rfl, rfl, trivial⟩
    · refine RefL.pure rfl rfl (RanP.move rfl) ?_
      refine RefL.pure rfl rfl (RanP.gtr rfl rfl) ?_
      refine RefL.pure rfl rfl (RanP.pickF rfl rfl) ?_
      refine RefL.nil ?_
      exact RefE.fin (s := (decide ((1048576 : Int) < a0))) ⟨rfl, rfl, trivial⟩
  · intro x1
    refine RefL.nil ?_
    refine RefE.next ?_
    refine RefC.cond rfl ?_ ?_
    · refine RefC.seq ?_
      refine RefC.region ?_
      refine RefL.pure rfl rfl (RanP.assign rfl) ?_
      refine RefL.pure rfl rfl (RanP.assign rfl) ?_
      refine RefL.nil ?_
      refine RefE.next ?_
      refine RefC.ret ?_
      refine RefE.thenRet ?_
      refine RefE.retV rfl ?_
      refine RefV.tmp rfl ?_
      refine RefV.tmp rfl ?_
      exact RefV.nil rfl
    · refine RefC.skip ?_
      refine RefE.next ?_
      refine RefC.seq ?_
      refine RefC.region ?_
      refine RefL.pure rfl rfl (RanP.move rfl) ?_
      refine RefL.hv rfl rfl (Hv.call (utf_New_ref K) Tryz.call100 rfl rfl rfl fun x2 => ?_)
      refine RefL.pure rfl rfl (RanP.build rfl (v := .agg (Agg.cells (Tmsg_Machine.mk a0 (0 : Int) Sl.nil x2 false (0 : Int))).toArray) (fun _ => by kernel_rfl)) ?_
      refine RefL.hv rfl rfl (Hv.box rfl rfl fun x3 => ?_)
      refine RefL.pure rfl rfl (RanP.assign rfl) ?_
      refine RefL.pure rfl rfl (RanP.assign rfl) ?_
      refine RefL.nil ?_
      refine RefE.next ?_
      refine RefC.ret ?_
      refine RefE.retV rfl ?_
      refine RefV.tmp rfl ?_
      refine RefV.tmp rfl ?_
      exact RefV.nil rfl

def ring_New (K : Nat) (a0 : Int) : G (Option Addr × Int) :=
  bnd (
    if (decide (a0 < (1 : Int))) = true then
      ret true
    else
      ret (decide ((65536 : Int) < a0))) fun (x1 : Bool) =>
  if x1 = true then
    ret (none, (40 : Int))
  else
    mk 5 1 1 [.int .u8 (0 : Int)] a0 a0 fun x2 =>
    new (Agg.cells (Tring_Ring.mk x2 (0 : Int) (0 : Int))) 165 fun x3 =>
    ret ((some x3), (0 : Int))
set_option maxRecDepth 100000 in
theorem ring_New_ref (K : Nat) (a0 : Int) : Does Tryz.prog 60 [.int .i64 a0] (ring_New K a0) (fun r => .tuple #[.pointer r.1, .int .i64 r.2]) := by
  refine Does.of Tryz.func60 rfl rfl rfl ?_
  unfold ring_New
  refine RefC.seq ?_
  refine RefC.region ?_
  refine RefL.pure rfl rfl (RanP.assign rfl) ?_
  refine RefL.pure rfl rfl (RanP.assign rfl) ?_
  refine RefL.nil ?_
  refine RefE.next ?_
  refine RefC.seq ?_
  refine RefC.seq ?_
  refine RefC.region ?_
  refine RefL.pure rfl rfl (RanP.move rfl) ?_
  refine RefL.pure rfl rfl (RanP.lss rfl rfl) ?_
  refine RefL.pure rfl rfl (RanP.move rfl) ?_
  refine RefL.cut (enc := fun (x1 : Bool) => ([(9, .bool x1), (0, .int .i64 a0)] : Env)) 3 ?_ ?_
  · refine RefL.ite (s := 6) rfl ?_ ?_
    · refine RefL.skip rfl rfl ?_
      refine RefL.skip rfl rfl ?_
      refine RefL.pure rfl rfl (RanP.pickT rfl rfl) ?_
      refine RefL.nil ?_
      exact RefE.fin (s := true) ⟨rfl, rfl, trivial⟩
    · refine RefL.pure rfl rfl (RanP.move rfl) ?_
      refine RefL.pure rfl rfl (RanP.gtr rfl rfl) ?_
      refine RefL.pure rfl rfl (RanP.pickF rfl rfl) ?_
      refine RefL.nil ?_
      exact RefE.fin (s := (decide ((65536 : Int) < a0))) ⟨rfl, rfl, trivial⟩
  · intro x1
    refine RefL.nil ?_
    refine RefE.next ?_
    refine RefC.cond rfl ?_ ?_
    · refine RefC.seq ?_
      refine RefC.region ?_
      refine RefL.pure rfl rfl (RanP.assign rfl) ?_
      refine RefL.pure rfl rfl (RanP.assign rfl) ?_
      refine RefL.nil ?_
      refine RefE.next ?_
      refine RefC.ret ?_
      refine RefE.thenRet ?_
      refine RefE.retV rfl ?_
      refine RefV.tmp rfl ?_
      refine RefV.tmp rfl ?_
      exact RefV.nil rfl
    · refine RefC.skip ?_
      refine RefE.next ?_
      refine RefC.seq ?_
      refine RefC.region ?_
      refine RefL.pure rfl rfl (RanP.move rfl) ?_
      refine RefL.hv rfl rfl (Hv.mk (i := Tryz.t5) Tryz.underlying49 rfl rfl rfl rfl rfl rfl fun x2 => ?_)
      refine RefL.pure rfl rfl (RanP.build rfl (v := .agg (Agg.cells (Tring_Ring.mk x2 (0 : Int) (0 : Int))).toArray) (fun _ => by kernel_rfl)) ?_
      refine RefL.hv rfl rfl (Hv.box rfl rfl fun x3 => ?_)
      refine RefL.pure rfl rfl (RanP.assign rfl) ?_
      refine RefL.pure rfl rfl (RanP.assign rfl) ?_
      refine RefL.nil ?_
      refine RefE.next ?_
      refine RefC.ret ?_
      refine RefE.retV rfl ?_
      refine RefV.tmp rfl ?_
      refine RefV.tmp rfl ?_
      exact RefV.nil rfl

def leg_New (K : Nat) (a0 : Tapi_Config) (a1 : Bool) (a2 : Int) : G (Option Addr × Int) :=
  new (Agg.cells a0) 25 fun x1 =>
  ldG (α := Tapi_Config) x1 fun x2 =>
  bnd (route_Check K x2) fun x3 =>
  if (x3 != (0 : Int)) = true then
    ret (none, (160 : Int))
  else
    ldG (α := Tapi_Config) x1 fun x4 =>
    new (Agg.cells (Tleg_Leg.mk x4.Routes x4.Origins x4.Table x4.Message x4.Frame x4.Count x4.Bytes x4.Out x4.Shake x4.Idle x4.Pong x4.Close none none none Sl.nil Sl.nil Sl.nil (!a1) a2 false false (0 : Int))) 109 fun x5 =>
    ldI .i64 (x1.add 3) fun x6 =>
    bnd (stream_New K a1 (if x6 < (125 : Int) then (125 : Int) else x6)) fun x7 =>
    st (x5.add 12) (.pointer x7.1) <|
    ldI .i64 (x1.add 3) fun x8 =>
    bnd (msg_New K x8) fun x9 =>
    st (x5.add 13) (.pointer x9.1) <|
    ldI .i64 (x1.add 7) fun x10 =>
    bnd (ring_New K x10) fun x11 =>
    st ((x5.add 14).add 0) (.pointer x11.1) <|
    ret ((some x5), (0 : Int))
set_option maxRecDepth 100000 in
theorem leg_New_ref (K : Nat) (a0 : Tapi_Config) (a1 : Bool) (a2 : Int) : Does Tryz.prog 17 [.agg (Agg.cells a0).toArray, .bool a1, .int .u32 a2] (leg_New K a0 a1 a2) (fun r => .tuple #[.pointer r.1, .int .i64 r.2]) := by
  refine Does.of Tryz.func17 rfl rfl rfl ?_
  unfold leg_New
  refine RefC.seq ?_
  refine RefC.region ?_
  refine RefL.hv rfl rfl (Hv.box rfl rfl fun x1 => ?_)
  refine RefL.pure rfl rfl (RanP.assign rfl) ?_
  refine RefL.pure rfl rfl (RanP.assign rfl) ?_
  refine RefL.nil ?_
  refine RefE.next ?_
  refine RefC.seq ?_
  refine RefC.seq ?_
  refine RefC.region ?_
  refine RefL.li rfl rfl (Lt.ldG (τ := Tapi_Config) Tryz.isAgg25 Tryz.sizeOf25 rfl fun x2 => ?_)
  refine RefL.hv rfl rfl (Hv.call (route_Check_ref K x2) Tryz.call57 rfl rfl rfl fun x3 => ?_)
  refine RefL.pure rfl rfl (RanP.neq rfl rfl) ?_
  refine RefL.nil ?_
  refine RefE.next ?_
  refine RefC.cond rfl ?_ ?_
  · refine RefC.seq ?_
    refine RefC.region ?_
    refine RefL.pure rfl rfl (RanP.assign rfl) ?_
    refine RefL.pure rfl rfl (RanP.assign rfl) ?_
    refine RefL.nil ?_
    refine RefE.next ?_
    refine RefC.ret ?_
    refine RefE.thenRet ?_
    refine RefE.retV rfl ?_
    refine RefV.tmp rfl ?_
    refine RefV.tmp rfl ?_
    exact RefV.nil rfl
  · refine RefC.skip ?_
    refine RefE.next ?_
    refine RefC.seq ?_
    refine RefC.region ?_
    refine RefL.li rfl rfl (Lt.ldG (τ := Tapi_Config) Tryz.isAgg25 Tryz.sizeOf25 rfl fun x4 => ?_)
    refine RefL.pure rfl rfl (RanP.move rfl) ?_
    refine RefL.pure rfl rfl (RanP.not rfl) ?_
    refine RefL.pure rfl rfl (RanP.move rfl) ?_
    refine RefL.pure rfl rfl (RanP.build rfl (v := .agg (Agg.cells (Tleg_Leg.mk x4.Routes x4.Origins x4.Table x4.Message x4.Frame x4.Count x4.Bytes x4.Out x4.Shake x4.Idle x4.Pong x4.Close none none none Sl.nil Sl.nil Sl.nil (!a1) a2 false false (0 : Int))).toArray) (fun _ => by kernel_rfl)) ?_
    refine RefL.hv rfl rfl (Hv.box rfl rfl fun x5 => ?_)
    refine RefL.pure rfl rfl (RanP.assign rfl) ?_
    refine RefL.nil ?_
    refine RefE.next ?_
    refine RefC.seq ?_
    refine RefC.region ?_
    refine RefL.pure rfl rfl (RanP.move rfl) ?_
    refine RefL.pure rfl rfl (RanP.move rfl) ?_
    refine RefL.pure rfl rfl (RanP.fieldAddr fa_25_3 rfl) ?_
    refine RefL.li rfl rfl (Lt.ldI Tryz.isAgg3 rfl fun x6 => ?_)
    refine RefL.pure rfl rfl (RanP.max2 rfl) ?_
    refine RefL.hv rfl rfl (Hv.call (stream_New_ref K a1 (if x6 < (125 : Int) then (125 : Int) else x6)) Tryz.call58 rfl rfl rfl fun x7 => ?_)
    refine RefL.pure rfl rfl (RanP.move rfl) ?_
    refine RefL.pure rfl rfl (RanP.extract rfl rfl) ?_
    refine RefL.pure rfl rfl (RanP.extract rfl rfl) ?_
    refine RefL.pure rfl rfl (RanP.nilCheck rfl) ?_
    refine RefL.pure rfl rfl (RanP.fieldAddr fa_109_1 rfl) ?_
    refine RefL.hv rfl rfl (Hv.st Tryz.sizeOf103 rfl rfl rfl ?_)
    refine RefL.nil ?_
    refine RefE.next ?_
    refine RefC.seq ?_
    refine RefC.region ?_
    refine RefL.pure rfl rfl (RanP.move rfl) ?_
    refine RefL.pure rfl rfl (RanP.fieldAddr fa_25_3 rfl) ?_
    refine RefL.li rfl rfl (Lt.ldI Tryz.isAgg3 rfl fun x8 => ?_)
    refine RefL.hv rfl rfl (Hv.call (msg_New_ref K x8) Tryz.call59 rfl rfl rfl fun x9 => ?_)
    refine RefL.pure rfl rfl (RanP.move rfl) ?_
    refine RefL.pure rfl rfl (RanP.extract rfl rfl) ?_
    refine RefL.pure rfl rfl (RanP.extract rfl rfl) ?_
    refine RefL.pure rfl rfl (RanP.nilCheck rfl) ?_
    refine RefL.pure rfl rfl (RanP.fieldAddr fa_109_2 rfl) ?_
    refine RefL.hv rfl rfl (Hv.st Tryz.sizeOf104 rfl rfl rfl ?_)
    refine RefL.nil ?_
    refine RefE.next ?_
    refine RefC.seq ?_
    refine RefC.region ?_
    refine RefL.pure rfl rfl (RanP.move rfl) ?_
    refine RefL.pure rfl rfl (RanP.fieldAddr fa_25_7 rfl) ?_
    refine RefL.li rfl rfl (Lt.ldI Tryz.isAgg3 rfl fun x10 => ?_)
    refine RefL.hv rfl rfl (Hv.call (ring_New_ref K x10) Tryz.call60 rfl rfl rfl fun x11 => ?_)
    refine RefL.pure rfl rfl (RanP.move rfl) ?_
    refine RefL.pure rfl rfl (RanP.extract rfl rfl) ?_
    refine RefL.pure rfl rfl (RanP.extract rfl rfl) ?_
    refine RefL.pure rfl rfl (RanP.nilCheck rfl) ?_
    refine RefL.pure rfl rfl (RanP.fieldAddr fa_109_3 rfl) ?_
    refine RefL.pure rfl rfl (RanP.fieldAddr fa_107_0 rfl) ?_
    refine RefL.hv rfl rfl (Hv.st Tryz.sizeOf105 rfl rfl rfl ?_)
    refine RefL.nil ?_
    refine RefE.next ?_
    refine RefC.seq ?_
    refine RefC.region ?_
    refine RefL.pure rfl rfl (RanP.move rfl) ?_
    refine RefL.pure rfl rfl (RanP.assign rfl) ?_
    refine RefL.pure rfl rfl (RanP.assign rfl) ?_
    refine RefL.nil ?_
    refine RefE.next ?_
    refine RefC.ret ?_
    refine RefE.retV rfl ?_
    refine RefV.tmp rfl ?_
    refine RefV.tmp rfl ?_
    exact RefV.nil rfl

def queue_New (K : Nat) (a0 : Int) (a1 : Int) : G (Option Addr × Int) :=
  bnd (
    if (decide (a0 < (1 : Int))) = true then
      ret true
    else
      ret (decide ((1024 : Int) < a0))) fun (x1 : Bool) =>
  bnd (
    if x1 = true then
      ret true
    else
      ret (decide (a1 < (1 : Int)))) fun (x2 : Bool) =>
  bnd (
    if x2 = true then
      ret true
    else
      ret (decide ((4194304 : Int) < a1))) fun (x3 : Bool) =>
  if x3 = true then
    ret (none, (140 : Int))
  else
    new (Agg.cells (Tqueue_Queue.mk a0 a1 Sl.nil (0 : Int))) 188 fun x4 =>
    ret ((some x4), (0 : Int))
set_option maxRecDepth 100000 in
theorem queue_New_ref (K : Nat) (a0 : Int) (a1 : Int) : Does Tryz.prog 80 [.int .i64 a0, .int .i64 a1] (queue_New K a0 a1) (fun r => .tuple #[.pointer r.1, .int .i64 r.2]) := by
  refine Does.of Tryz.func80 rfl rfl rfl ?_
  unfold queue_New
  refine RefC.seq ?_
  refine RefC.region ?_
  refine RefL.pure rfl rfl (RanP.assign rfl) ?_
  refine RefL.pure rfl rfl (RanP.assign rfl) ?_
  refine RefL.nil ?_
  refine RefE.next ?_
  refine RefC.seq ?_
  refine RefC.seq ?_
  refine RefC.region ?_
  refine RefL.pure rfl rfl (RanP.move rfl) ?_
  refine RefL.pure rfl rfl (RanP.lss rfl rfl) ?_
  refine RefL.pure rfl rfl (RanP.move rfl) ?_
  refine RefL.cut (enc := fun (x1 : Bool) => ([(11, .bool x1), (0, .int .i64 a0), (1, .int .i64 a1)] : Env)) 3 ?_ ?_
  · refine RefL.ite (s := 8) rfl ?_ ?_
    · refine RefL.skip rfl rfl ?_
      refine RefL.skip rfl rfl ?_
      refine RefL.pure rfl rfl (RanP.pickT rfl rfl) ?_
      refine RefL.nil ?_
      exact RefE.fin (s := true) ⟨rfl, rfl, rfl, trivial⟩
    · refine RefL.pure rfl rfl (RanP.move rfl) ?_
      refine RefL.pure rfl rfl (RanP.gtr rfl rfl) ?_
      refine RefL.pure rfl rfl (RanP.pickF rfl rfl) ?_
      refine RefL.nil ?_
      exact RefE.fin (s := (decide ((1024 : Int) < a0))) ⟨rfl, rfl, rfl, trivial⟩
  · intro x1
    refine RefL.pure rfl rfl (RanP.move rfl) ?_
    refine RefL.cut (enc := fun (x2 : Bool) => ([(15, .bool x2), (0, .int .i64 a0), (1, .int .i64 a1)] : Env)) 3 ?_ ?_
    · refine RefL.ite (s := 12) rfl ?_ ?_
      · refine RefL.skip rfl rfl ?_
        refine RefL.skip rfl rfl ?_
        refine RefL.pure rfl rfl (RanP.pickT rfl rfl) ?_
        refine RefL.nil ?_
        exact RefE.fin (s := true) ⟨rfl, rfl, rfl, trivial⟩
      · refine RefL.pure rfl rfl (RanP.move rfl) ?_
        refine RefL.pure rfl rfl (RanP.lss rfl rfl) ?_
        refine RefL.pure rfl rfl (RanP.pickF rfl rfl) ?_
        refine RefL.nil ?_
        exact RefE.fin (s := (decide (a1 < (1 : Int)))) ⟨rfl, rfl, rfl, trivial⟩
    · intro x2
      refine RefL.pure rfl rfl (RanP.move rfl) ?_
      refine RefL.cut (enc := fun (x3 : Bool) => ([(19, .bool x3), (0, .int .i64 a0), (1, .int .i64 a1)] : Env)) 3 ?_ ?_
      · refine RefL.ite (s := 16) rfl ?_ ?_
        · refine RefL.skip rfl rfl ?_
          refine RefL.skip rfl rfl ?_
          refine RefL.pure rfl rfl (RanP.pickT rfl rfl) ?_
          refine RefL.nil ?_
          exact RefE.fin (s := true) ⟨rfl, rfl, rfl, trivial⟩
        · refine RefL.pure rfl rfl (RanP.move rfl) ?_
          refine RefL.pure rfl rfl (RanP.gtr rfl rfl) ?_
          refine RefL.pure rfl rfl (RanP.pickF rfl rfl) ?_
          refine RefL.nil ?_
          exact RefE.fin (s := (decide ((4194304 : Int) < a1))) ⟨rfl, rfl, rfl, trivial⟩
      · intro x3
        refine RefL.nil ?_
        refine RefE.next ?_
        refine RefC.cond rfl ?_ ?_
        · refine RefC.seq ?_
          refine RefC.region ?_
          refine RefL.pure rfl rfl (RanP.assign rfl) ?_
          refine RefL.pure rfl rfl (RanP.assign rfl) ?_
          refine RefL.nil ?_
          refine RefE.next ?_
          refine RefC.ret ?_
          refine RefE.thenRet ?_
          refine RefE.retV rfl ?_
          refine RefV.tmp rfl ?_
          refine RefV.tmp rfl ?_
          exact RefV.nil rfl
        · refine RefC.skip ?_
          refine RefE.next ?_
          refine RefC.seq ?_
          refine RefC.region ?_
          refine RefL.pure rfl rfl (RanP.move rfl) ?_
          refine RefL.pure rfl rfl (RanP.move rfl) ?_
          refine RefL.pure rfl rfl (RanP.build rfl (v := .agg (Agg.cells (Tqueue_Queue.mk a0 a1 Sl.nil (0 : Int))).toArray) (fun _ => by kernel_rfl)) ?_
          refine RefL.hv rfl rfl (Hv.box rfl rfl fun x4 => ?_)
          refine RefL.pure rfl rfl (RanP.assign rfl) ?_
          refine RefL.pure rfl rfl (RanP.assign rfl) ?_
          refine RefL.nil ?_
          refine RefE.next ?_
          refine RefC.ret ?_
          refine RefE.retV rfl ?_
          refine RefV.tmp rfl ?_
          refine RefV.tmp rfl ?_
          exact RefV.nil rfl

def bridge_New_l0 (K : Nat) (x1 : Addr) (a1 : Int) (x3 : Addr) (again : Int → G (Unit ⊕ (Option Addr × Int))) (s25 : Int) : G (Unit ⊕ (Option Addr × Int)) :=
  if (decide (s25 < (2 : Int))) = true then
    ldG (α := Tapi_Config) x1 fun x26 =>
    bnd (leg_New K x26 (s25 == (0 : Int)) a1) fun x27 =>
    if (x27.2 != (0 : Int)) = true then
      inr (ret (none, (170 : Int)))
    else
      ldI .i64 (x1.add 5) fun x28 =>
      ldI .i64 (x1.add 6) fun x29 =>
      bnd (queue_New K x28 x29) fun x30 =>
      chk (0 ≤ s25 ∧ s25 < ((2 : Nat) : Int)) <|
      st ((x3.add 12).add (s25.toNat * 7)) (.agg (Agg.cells (Tbridge_side.mk x27.1 x30.1 false (-1 : Int) (0 : Int) false (0 : Int))).toArray) <|
      again ((IntKind.wrap .i64 (s25 + (1 : Int))))
  else
    ret (.inl ())
def bridge_New (K : Nat) (a0 : Tapi_Config) (a1 : Int) : G (Option Addr × Int) :=
  new (Agg.cells a0) 25 fun x1 =>
  ldG (α := Tapi_Config) x1 fun x2 =>
  new (Agg.cells (Tbridge_Bridge.mk x2.Routes x2.Origins x2.Table x2.Message x2.Frame x2.Count x2.Bytes x2.Out x2.Shake x2.Idle x2.Pong x2.Close none none false (0 : Int) (0 : Int) false (0 : Int) none none false (0 : Int) (0 : Int) false (0 : Int))) 141 fun x3 =>
  bnd (
    loopG (bridge_New_l0 K x1 a1 x3) K ((0 : Int))) (sumK fun (s32 : Unit) =>
  ret ((some x3), (0 : Int)))
set_option maxRecDepth 100000 in
theorem bridge_New_ref (K : Nat) (a0 : Tapi_Config) (a1 : Int) : Does Tryz.prog 37 [.agg (Agg.cells a0).toArray, .int .u32 a1] (bridge_New K a0 a1) (fun r => .tuple #[.pointer r.1, .int .i64 r.2]) := by
  refine Does.of Tryz.func37 rfl rfl rfl ?_
  unfold bridge_New
  refine RefC.seq ?_
  refine RefC.region ?_
  refine RefL.hv rfl rfl (Hv.box rfl rfl fun x1 => ?_)
  refine RefL.pure rfl rfl (RanP.assign rfl) ?_
  refine RefL.pure rfl rfl (RanP.assign rfl) ?_
  refine RefL.nil ?_
  refine RefE.next ?_
  refine RefC.seq ?_
  refine RefC.region ?_
  refine RefL.li rfl rfl (Lt.ldG (τ := Tapi_Config) Tryz.isAgg25 Tryz.sizeOf25 rfl fun x2 => ?_)
  refine RefL.pure rfl rfl (RanP.build rfl (v := .agg (Agg.cells (Tbridge_Bridge.mk x2.Routes x2.Origins x2.Table x2.Message x2.Frame x2.Count x2.Bytes x2.Out x2.Shake x2.Idle x2.Pong x2.Close none none false (0 : Int) (0 : Int) false (0 : Int) none none false (0 : Int) (0 : Int) false (0 : Int))).toArray) (fun _ => by kernel_rfl)) ?_
  refine RefL.hv rfl rfl (Hv.box rfl rfl fun x3 => ?_)
  refine RefL.pure rfl rfl (RanP.assign rfl) ?_
  refine RefL.nil ?_
  refine RefE.next ?_
  refine RefC.seq ?_
  refine RefC.seq ?_
  refine RefC.region ?_
  refine RefL.pure rfl rfl (RanP.move rfl) ?_
  refine RefL.nil ?_
  refine RefE.next ?_
  refine RefC.cutSum (enc := fun (s32 : Unit) => ([(6, .pointer (some x3))] : Env)) (KThen.mono KRet.mono) ?_ ?_
  · refine RefC.block ?_
    refine RefC.loopW (enc := fun (s25 : Int) => ([(15, .int .i64 s25), (1, .int .u32 a1), (2, .pointer (some x1)), (6, .pointer (some x3))] : Env)) ⟨rfl, rfl, rfl, rfl, trivial⟩ ?_ _
    intro again k ih s25
    unfold bridge_New_l0
    refine RefC.seq ?_
    refine RefC.region ?_
    refine RefL.pure rfl rfl (RanP.lss rfl rfl) ?_
    refine RefL.nil ?_
    refine RefE.next ?_
    refine RefC.seq ?_
    refine RefC.cond rfl ?_ ?_
    · refine RefC.skip ?_
      refine RefE.next ?_
      refine RefC.seq ?_
      refine RefC.block ?_
      refine RefC.seq ?_
      refine RefC.region ?_
      refine RefL.pure rfl rfl (RanP.move rfl) ?_
      refine RefL.pure rfl rfl (RanP.assign rfl) ?_
      refine RefL.nil ?_
      refine RefE.next ?_
      refine RefC.seq ?_
      refine RefC.region ?_
      refine RefL.li rfl rfl (Lt.ldG (τ := Tapi_Config) Tryz.isAgg25 Tryz.sizeOf25 rfl fun x26 => ?_)
      refine RefL.pure rfl rfl (RanP.move rfl) ?_
      refine RefL.pure rfl rfl (RanP.eql rfl rfl) ?_
      refine RefL.pure rfl rfl (RanP.move rfl) ?_
      refine RefL.hv rfl rfl (Hv.call (leg_New_ref K x26 (s25 == (0 : Int)) a1) Tryz.call17 rfl rfl rfl fun x27 => ?_)
      refine RefL.pure rfl rfl (RanP.move rfl) ?_
      refine RefL.pure rfl rfl (RanP.extract rfl rfl) ?_
      refine RefL.pure rfl rfl (RanP.extract rfl rfl) ?_
      refine RefL.pure rfl rfl (RanP.assign rfl) ?_
      refine RefL.pure rfl rfl (RanP.assign rfl) ?_
      refine RefL.nil ?_
      refine RefE.next ?_
      refine RefC.seq ?_
      refine RefC.seq ?_
      refine RefC.region ?_
      refine RefL.pure rfl rfl (RanP.move rfl) ?_
      refine RefL.pure rfl rfl (RanP.neq rfl rfl) ?_
      refine RefL.nil ?_
      refine RefE.next ?_
      refine RefC.cond rfl ?_ ?_
      · refine RefC.seq ?_
        refine RefC.region ?_
        refine RefL.pure rfl rfl (RanP.assign rfl) ?_
        refine RefL.pure rfl rfl (RanP.assign rfl) ?_
        refine RefL.nil ?_
        refine RefE.next ?_
        refine RefC.ret ?_
        refine RefE.thenRet ?_
        refine RefE.blockRet ?_
        refine RefE.thenRet ?_
        refine RefE.roundRet ?_
        refine RefE.blockRet ?_
        refine RefE.finR ?_
        refine RefE.thenRet ?_
        refine RefE.retV rfl ?_
        refine RefV.tmp rfl ?_
        refine RefV.tmp rfl ?_
        exact RefV.nil rfl
      · refine RefC.skip ?_
        refine RefE.next ?_
        refine RefC.seq ?_
        refine RefC.region ?_
        refine RefL.pure rfl rfl (RanP.fieldAddr fa_25_5 rfl) ?_
        refine RefL.li rfl rfl (Lt.ldI Tryz.isAgg3 rfl fun x28 => ?_)
        refine RefL.pure rfl rfl (RanP.fieldAddr fa_25_6 rfl) ?_
        refine RefL.li rfl rfl (Lt.ldI Tryz.isAgg3 rfl fun x29 => ?_)
        refine RefL.hv rfl rfl (Hv.call (queue_New_ref K x28 x29) Tryz.call80 rfl rfl rfl fun x30 => ?_)
        refine RefL.pure rfl rfl (RanP.move rfl) ?_
        refine RefL.pure rfl rfl (RanP.extract rfl rfl) ?_
        refine RefL.pure rfl rfl (RanP.extract rfl rfl) ?_
        refine RefL.pure rfl rfl (RanP.assign rfl) ?_
        refine RefL.pure rfl rfl (RanP.assign rfl) ?_
        refine RefL.nil ?_
        refine RefE.next ?_
        refine RefC.region ?_
        refine RefL.pure rfl rfl (RanP.move rfl) ?_
        refine RefL.pure rfl rfl (RanP.move rfl) ?_
        refine RefL.pure rfl rfl (RanP.move rfl) ?_
        refine RefL.pure rfl rfl (RanP.move rfl) ?_
        refine RefL.pure rfl rfl (RanP.build rfl (v := .agg (Agg.cells (Tbridge_side.mk x27.1 x30.1 false (-1 : Int) (0 : Int) false (0 : Int))).toArray) (fun _ => by kernel_rfl)) ?_
        refine RefL.pure rfl rfl (RanP.nilCheck rfl) ?_
        refine RefL.pure rfl rfl (RanP.fieldAddr fa_141_1 rfl) ?_
        refine RefL.chk fun h31 => ?_
        refine RefL.pure rfl rfl (RanP.ixArr (len := 2) h31 Tryz.underlying139 Tryz.sizeOf138 rfl rfl) ?_
        refine RefL.hv rfl rfl (Hv.st Tryz.sizeOf138 rfl rfl rfl ?_)
        refine RefL.nil ?_
        refine RefE.blockNormal ?_
        refine RefE.next ?_
        refine RefC.region ?_
        refine RefL.pure rfl rfl (RanP.add rfl rfl) ?_
        refine RefL.pure rfl rfl (RanP.move rfl) ?_
        refine RefL.nil ?_
        exact RefE.again (ih ((IntKind.wrap .i64 (s25 + (1 : Int))))) ⟨rfl, rfl, rfl, rfl, trivial⟩
    · refine RefC.exit ?_
      refine RefE.thenExit ?_
      refine RefE.roundExit ?_
      refine RefE.blockExit ?_
      exact RefE.finL (s := ()) ⟨rfl, trivial⟩
  · intro s32
    refine RefE.next ?_
    refine RefC.seq ?_
    refine RefC.region ?_
    refine RefL.pure rfl rfl (RanP.move rfl) ?_
    refine RefL.pure rfl rfl (RanP.assign rfl) ?_
    refine RefL.pure rfl rfl (RanP.assign rfl) ?_
    refine RefL.nil ?_
    refine RefE.next ?_
    refine RefC.ret ?_
    refine RefE.retV rfl ?_
    refine RefV.tmp rfl ?_
    refine RefV.tmp rfl ?_
    exact RefV.nil rfl

def bridge_has (K : Nat) (a0 : Int) : G (Bool) :=
  bnd (
    if (a0 == (0 : Int)) = true then
      ret true
    else
      ret (a0 == (1 : Int))) fun (x1 : Bool) =>
  ret x1
set_option maxRecDepth 100000 in
theorem bridge_has_ref (K : Nat) (a0 : Int) : Does Tryz.prog 83 [.int .i64 a0] (bridge_has K a0) (fun r => .bool r) := by
  refine Does.of Tryz.func83 rfl rfl rfl ?_
  unfold bridge_has
  refine RefC.seq ?_
  refine RefC.region ?_
  refine RefL.pure rfl rfl (RanP.assign rfl) ?_
  refine RefL.nil ?_
  refine RefE.next ?_
  refine RefC.seq ?_
  refine RefC.region ?_
  refine RefL.pure rfl rfl (RanP.move rfl) ?_
  refine RefL.pure rfl rfl (RanP.eql rfl rfl) ?_
  refine RefL.pure rfl rfl (RanP.move rfl) ?_
  refine RefL.cut (enc := fun (x1 : Bool) => ([(8, .bool x1)] : Env)) 3 ?_ ?_
  · refine RefL.ite (s := 5) rfl ?_ ?_
    · refine RefL.skip rfl rfl ?_
      refine RefL.skip rfl rfl ?_
      refine RefL.pure rfl rfl (RanP.pickT rfl rfl) ?_
      refine RefL.nil ?_
      exact RefE.fin (s := true) ⟨rfl, trivial⟩
    · refine RefL.pure rfl rfl (RanP.move rfl) ?_
      refine RefL.pure rfl rfl (RanP.eql rfl rfl) ?_
      refine RefL.pure rfl rfl (RanP.pickF rfl rfl) ?_
      refine RefL.nil ?_
      exact RefE.fin (s := (a0 == (1 : Int))) ⟨rfl, trivial⟩
  · intro x1
    refine RefL.pure rfl rfl (RanP.assign rfl) ?_
    refine RefL.nil ?_
    refine RefE.next ?_
    refine RefC.ret ?_
    refine RefE.retV rfl ?_
    refine RefV.tmp rfl ?_
    exact RefV.nil rfl

def leg_Leg_Got (K : Nat) (a0 : Option Addr) : G (Bool) :=
  nn a0 fun x1 =>
  ldB (x1.add 21) fun x2 =>
  ret x2
set_option maxRecDepth 100000 in
theorem leg_Leg_Got_ref (K : Nat) (a0 : Option Addr) : Does Tryz.prog 35 [.pointer a0] (leg_Leg_Got K a0) (fun r => .bool r) := by
  refine Does.of Tryz.func35 rfl rfl rfl ?_
  unfold leg_Leg_Got
  refine RefC.seq ?_
  refine RefC.region ?_
  refine RefL.pure rfl rfl (RanP.assign rfl) ?_
  refine RefL.nil ?_
  refine RefE.next ?_
  refine RefC.seq ?_
  refine RefC.region ?_
  refine RefL.pure rfl rfl (RanP.move rfl) ?_
  refine RefL.li rfl rfl (Lt.nn rfl fun x1 => ?_)
  refine RefL.pure rfl rfl (RanP.fieldAddr fa_109_9 rfl) ?_
  refine RefL.li rfl rfl (Lt.ldB Tryz.isAgg4 rfl fun x2 => ?_)
  refine RefL.pure rfl rfl (RanP.assign rfl) ?_
  refine RefL.nil ?_
  refine RefE.next ?_
  refine RefC.ret ?_
  refine RefE.retV rfl ?_
  refine RefV.tmp rfl ?_
  exact RefV.nil rfl

def leg_Leg_Wrong (K : Nat) (a0 : Option Addr) : G (Int) :=
  nn a0 fun x1 =>
  ldI .i64 (x1.add 22) fun x2 =>
  ret x2
set_option maxRecDepth 100000 in
theorem leg_Leg_Wrong_ref (K : Nat) (a0 : Option Addr) : Does Tryz.prog 34 [.pointer a0] (leg_Leg_Wrong K a0) (fun r => .int .i64 r) := by
  refine Does.of Tryz.func34 rfl rfl rfl ?_
  unfold leg_Leg_Wrong
  refine RefC.seq ?_
  refine RefC.region ?_
  refine RefL.pure rfl rfl (RanP.assign rfl) ?_
  refine RefL.nil ?_
  refine RefE.next ?_
  refine RefC.seq ?_
  refine RefC.region ?_
  refine RefL.pure rfl rfl (RanP.move rfl) ?_
  refine RefL.li rfl rfl (Lt.nn rfl fun x1 => ?_)
  refine RefL.pure rfl rfl (RanP.fieldAddr fa_109_10 rfl) ?_
  refine RefL.li rfl rfl (Lt.ldI Tryz.isAgg31 rfl fun x2 => ?_)
  refine RefL.pure rfl rfl (RanP.assign rfl) ?_
  refine RefL.nil ?_
  refine RefE.next ?_
  refine RefC.ret ?_
  refine RefE.retV rfl ?_
  refine RefV.tmp rfl ?_
  exact RefV.nil rfl

def bridge_side_deaf (K : Nat) (a0 : Option Addr) : G (Bool) :=
  nn a0 fun x1 =>
  ldB (x1.add 2) fun x2 =>
  bnd (
    if x2 = true then
      ret true
    else
      nn a0 fun x4 =>
      ldP (x4.add 0) fun x5 =>
      bnd (leg_Leg_Got K x5) fun x6 =>
      ret x6) fun (x3 : Bool) =>
  bnd (
    if x3 = true then
      ret true
    else
      nn a0 fun x8 =>
      ldP (x8.add 0) fun x9 =>
      bnd (leg_Leg_Wrong K x9) fun x10 =>
      ret (x10 != (0 : Int))) fun (x7 : Bool) =>
  ret x7
set_option maxRecDepth 100000 in
theorem bridge_side_deaf_ref (K : Nat) (a0 : Option Addr) : Does Tryz.prog 84 [.pointer a0] (bridge_side_deaf K a0) (fun r => .bool r) := by
  refine Does.of Tryz.func84 rfl rfl rfl ?_
  unfold bridge_side_deaf
  refine RefC.seq ?_
  refine RefC.region ?_
  refine RefL.pure rfl rfl (RanP.assign rfl) ?_
  refine RefL.nil ?_
  refine RefE.next ?_
  refine RefC.seq ?_
  refine RefC.region ?_
  refine RefL.pure rfl rfl (RanP.move rfl) ?_
  refine RefL.li rfl rfl (Lt.nn rfl fun x1 => ?_)
  refine RefL.pure rfl rfl (RanP.fieldAddr fa_138_2 rfl) ?_
  refine RefL.li rfl rfl (Lt.ldB Tryz.isAgg4 rfl fun x2 => ?_)
  refine RefL.pure rfl rfl (RanP.move rfl) ?_
  refine RefL.cut (enc := fun (x3 : Bool) => ([(13, .bool x3), (0, .pointer a0)] : Env)) 6 ?_ ?_
  · refine RefL.ite (s := 7) rfl ?_ ?_
    · refine RefL.skip rfl rfl ?_
      refine RefL.skip rfl rfl ?_
      refine RefL.skip rfl rfl ?_
      refine RefL.skip rfl rfl ?_
      refine RefL.skip rfl rfl ?_
      refine RefL.pure rfl rfl (RanP.pickT rfl rfl) ?_
      refine RefL.nil ?_
      exact RefE.fin (s := true) ⟨rfl, rfl, trivial⟩
    · refine RefL.pure rfl rfl (RanP.move rfl) ?_
      refine RefL.li rfl rfl (Lt.nn rfl fun x4 => ?_)
      refine RefL.pure rfl rfl (RanP.fieldAddr fa_138_0 rfl) ?_
      refine RefL.li rfl rfl (Lt.ldP Tryz.isAgg30 rfl fun x5 => ?_)
      refine RefL.hv rfl rfl (Hv.call (leg_Leg_Got_ref K x5) Tryz.call35 rfl rfl rfl fun x6 => ?_)
      refine RefL.pure rfl rfl (RanP.pickF rfl rfl) ?_
      refine RefL.nil ?_
      exact RefE.fin (s := x6) ⟨rfl, rfl, trivial⟩
  · intro x3
    refine RefL.pure rfl rfl (RanP.move rfl) ?_
    refine RefL.cut (enc := fun (x7 : Bool) => ([(21, .bool x7)] : Env)) 7 ?_ ?_
    · refine RefL.ite (s := 14) rfl ?_ ?_
      · refine RefL.skip rfl rfl ?_
        refine RefL.skip rfl rfl ?_
        refine RefL.skip rfl rfl ?_
        refine RefL.skip rfl rfl ?_
        refine RefL.skip rfl rfl ?_
        refine RefL.skip rfl rfl ?_
        refine RefL.pure rfl rfl (RanP.pickT rfl rfl) ?_
        refine RefL.nil ?_
        exact RefE.fin (s := true) ⟨rfl, trivial⟩
      · refine RefL.pure rfl rfl (RanP.move rfl) ?_
        refine RefL.li rfl rfl (Lt.nn rfl fun x8 => ?_)
        refine RefL.pure rfl rfl (RanP.fieldAddr fa_138_0 rfl) ?_
        refine RefL.li rfl rfl (Lt.ldP Tryz.isAgg30 rfl fun x9 => ?_)
        refine RefL.hv rfl rfl (Hv.call (leg_Leg_Wrong_ref K x9) Tryz.call34 rfl rfl rfl fun x10 => ?_)
        refine RefL.pure rfl rfl (RanP.neq rfl rfl) ?_
        refine RefL.pure rfl rfl (RanP.pickF rfl rfl) ?_
        refine RefL.nil ?_
        exact RefE.fin (s := (x10 != (0 : Int))) ⟨rfl, trivial⟩
    · intro x7
      refine RefL.pure rfl rfl (RanP.assign rfl) ?_
      refine RefL.nil ?_
      refine RefE.next ?_
      refine RefC.ret ?_
      refine RefE.retV rfl ?_
      refine RefV.tmp rfl ?_
      exact RefV.nil rfl

def queue_Queue_Len (K : Nat) (a0 : Option Addr) : G (Int) :=
  nn a0 fun x1 =>
  ldSl ((x1.add 2).add 0) fun x2 =>
  lt (x2.n : Int) fun x3 =>
  ret x3
set_option maxRecDepth 100000 in
theorem queue_Queue_Len_ref (K : Nat) (a0 : Option Addr) : Does Tryz.prog 92 [.pointer a0] (queue_Queue_Len K a0) (fun r => .int .i64 r) := by
  refine Does.of Tryz.func92 rfl rfl rfl ?_
  unfold queue_Queue_Len
  refine RefC.seq ?_
  refine RefC.region ?_
  refine RefL.pure rfl rfl (RanP.assign rfl) ?_
  refine RefL.nil ?_
  refine RefE.next ?_
  refine RefC.seq ?_
  refine RefC.region ?_
  refine RefL.pure rfl rfl (RanP.move rfl) ?_
  refine RefL.li rfl rfl (Lt.nn rfl fun x1 => ?_)
  refine RefL.pure rfl rfl (RanP.fieldAddr fa_188_2 rfl) ?_
  refine RefL.pure rfl rfl (RanP.fieldAddr fa_186_0 rfl) ?_
  refine RefL.li rfl rfl (Lt.ldSl Tryz.isAgg47 rfl fun x2 => ?_)
  refine RefL.pure rfl rfl (RanP.lenSl rfl Tryz.underlying47 rfl) ?_
  refine RefL.pure rfl rfl (RanP.assign rfl) ?_
  refine RefL.lt 2 (fun y => .int .i64 y) rfl fun x3 => ?_
  refine RefL.nil ?_
  refine RefE.next ?_
  refine RefC.ret ?_
  refine RefE.retV rfl ?_
  refine RefV.tmp rfl ?_
  exact RefV.nil rfl

def queue_Queue_Room (K : Nat) (a0 : Option Addr) (a1 : Int) : G (Bool) :=
  bnd (
    drw <|
    nn a0 fun x10 =>
    wld fun w12 =>
    ldI .i64 (x10.add 0) fun x11 =>
    bnd (queue_Queue_Len K a0) fun x13 =>
    agr (like (x10.add 0) 1 w12) <|
    if (decide (x13 < x11)) = true then
      if (decide ((0 : Int) ≤ a1)) = true then
        nn a0 fun x14 =>
        ldI .i64 (x14.add 1) fun x15 =>
        nn a0 fun x16 =>
        ldI .i64 (x16.add 3) fun x17 =>
        lt (decide (a1 ≤ (IntKind.wrap .i64 (x15 - x17)))) fun x18 =>
        ret (x18)
      else
        ret (false)
    else
      ret (false)) fun (s19 : Bool) =>
  ret s19
set_option maxRecDepth 100000 in
theorem queue_Queue_Room_ref (K : Nat) (a0 : Option Addr) (a1 : Int) : Does Tryz.prog 85 [.pointer a0, .int .i64 a1] (queue_Queue_Room K a0 a1) (fun r => .bool r) := by
  refine Does.of Tryz.func85 rfl rfl rfl ?_
  unfold queue_Queue_Room
  refine RefC.seq ?_
  refine RefC.region ?_
  refine RefL.pure rfl rfl (RanP.assign rfl) ?_
  refine RefL.nil ?_
  refine RefE.next ?_
  refine RefC.seq ?_
  refine RefC.cut (enc := fun (s19 : Bool) => ([(4, .bool s19)] : Env)) ?_ ?_
  · refine RefC.draw mixed [0, 1, 0, 4, 12, 28, 63, 127, 255, 511, 1023, 2047, 4095, 4095, 12287, 28671, 61439, 4095, 135167, 397311, 921599, 2093055, 4194303, 8388607, 16777215] [.lp 0, .lp 2, .lp 3, .lp 4, .li 5, .hv 1, .re 5, .lp 6, .lp 7, .lp 8, .lp 9, .lp 10, .lp 11, .lp 12, .lp 13, .lp 14, .lp 15, .li 16, .lp 17, .lp 18, .lp 19, .li 20, .lp 21, .lp 22, .lp 23, .lp 24] (by kernel_rfl) ?_
    refine RefD.pure (at_ rfl) rfl (RanP.move rfl) ?_
    refine RefD.pure (at_ rfl) rfl (RanP.move rfl) ?_
    refine RefD.any (at_ rfl) rfl (Lt.nn rfl fun x10 => ?_)
    refine RefD.pure (at_ rfl) rfl (RanP.fieldAddr fa_188_0 rfl) ?_
    refine RefD.li (at_ rfl) rfl fun w12 => (Lt.ldI Tryz.isAgg3 rfl fun x11 => ?_)
    refine RefD.hv (at_ rfl) rfl (Hv.call (queue_Queue_Len_ref K a0) Tryz.call92 rfl rfl rfl fun x13 => ?_)
    refine RefD.re rfl ?_
    refine RefD.pure (at_ rfl) rfl (RanP.lss rfl rfl) ?_
    refine RefD.pure (at_ rfl) rfl (RanP.move rfl) ?_
    refine RefD.ite (s := 12) rfl ?_ ?_
    · refine RefD.pure (at_ rfl) rfl (RanP.move rfl) ?_
      refine RefD.pure (at_ rfl) rfl (RanP.geq rfl rfl) ?_
      refine RefD.pure (at_ rfl) rfl (RanP.pickT rfl rfl) ?_
      refine RefD.pure (at_ rfl) rfl (RanP.move rfl) ?_
      refine RefD.ite (s := 16) rfl ?_ ?_
      · refine RefD.pure (at_ rfl) rfl (RanP.move rfl) ?_
        refine RefD.pure (at_ rfl) rfl (RanP.move rfl) ?_
        refine RefD.any (at_ rfl) rfl (Lt.nn rfl fun x14 => ?_)
        refine RefD.pure (at_ rfl) rfl (RanP.fieldAddr fa_188_1 rfl) ?_
        refine RefD.li0 (at_ rfl) rfl (Lt.ldI Tryz.isAgg3 rfl fun x15 => ?_)
        refine RefD.pure (at_ rfl) rfl (RanP.move rfl) ?_
        refine RefD.any (at_ rfl) rfl (Lt.nn rfl fun x16 => ?_)
        refine RefD.pure (at_ rfl) rfl (RanP.fieldAddr fa_188_3 rfl) ?_
        refine RefD.li0 (at_ rfl) rfl (Lt.ldI Tryz.isAgg3 rfl fun x17 => ?_)
        refine RefD.pure (at_ rfl) rfl (RanP.sub rfl rfl) ?_
        refine RefD.pure (at_ rfl) rfl (RanP.leq rfl rfl) ?_
        refine RefD.pure (at_ rfl) rfl (RanP.pickT rfl rfl) ?_
        refine RefD.pure (at_ rfl) rfl (RanP.assign rfl) ?_
        refine RefD.lt 4 (fun y => .bool y) rfl fun x18 => ?_
        refine RefD.nil ?_
        exact RefE.fin (s := (x18)) ⟨rfl, trivial⟩
      · refine RefD.skipP (at_ rfl) rfl ?_
        refine RefD.skipP (at_ rfl) rfl ?_
        refine RefD.skipP (at_ rfl) rfl ?_
        refine RefD.skipP (at_ rfl) rfl ?_
        refine RefD.skipI (at_ rfl) rfl ?_
        refine RefD.skipP (at_ rfl) rfl ?_
        refine RefD.skipP (at_ rfl) rfl ?_
        refine RefD.skipP (at_ rfl) rfl ?_
        refine RefD.skipI (at_ rfl) rfl ?_
        refine RefD.skipP (at_ rfl) rfl ?_
        refine RefD.skipP (at_ rfl) rfl ?_
        refine RefD.pure (at_ rfl) rfl (RanP.pickF rfl rfl) ?_
        refine RefD.pure (at_ rfl) rfl (RanP.assign rfl) ?_
        refine RefD.nil ?_
        exact RefE.fin (s := (false)) ⟨rfl, trivial⟩
    · refine RefD.skipP (at_ rfl) rfl ?_
      refine RefD.skipP (at_ rfl) rfl ?_
      refine RefD.pure (at_ rfl) rfl (RanP.pickF rfl rfl) ?_
      refine RefD.pure (at_ rfl) rfl (RanP.move rfl) ?_
      refine RefD.skipP (at_ rfl) rfl ?_
      refine RefD.skipP (at_ rfl) rfl ?_
      refine RefD.skipP (at_ rfl) rfl ?_
      refine RefD.skipP (at_ rfl) rfl ?_
      refine RefD.skipI (at_ rfl) rfl ?_
      refine RefD.skipP (at_ rfl) rfl ?_
      refine RefD.skipP (at_ rfl) rfl ?_
      refine RefD.skipP (at_ rfl) rfl ?_
      refine RefD.skipI (at_ rfl) rfl ?_
      refine RefD.skipP (at_ rfl) rfl ?_
      refine RefD.skipP (at_ rfl) rfl ?_
      refine RefD.pure (at_ rfl) rfl (RanP.pickF rfl rfl) ?_
      refine RefD.pure (at_ rfl) rfl (RanP.assign rfl) ?_
      refine RefD.nil ?_
      exact RefE.fin (s := (false)) ⟨rfl, trivial⟩
  · intro s19
    refine RefE.next ?_
    refine RefC.ret ?_
    refine RefE.retV rfl ?_
    refine RefV.tmp rfl ?_
    exact RefV.nil rfl

def frame_Control (K : Nat) (a0 : Int) : G (Bool) :=
  bnd (
    if (a0 == (8 : Int)) = true then
      ret true
    else
      ret (a0 == (9 : Int))) fun (x1 : Bool) =>
  bnd (
    if x1 = true then
      ret true
    else
      ret (a0 == (10 : Int))) fun (x2 : Bool) =>
  ret x2
set_option maxRecDepth 100000 in
theorem frame_Control_ref (K : Nat) (a0 : Int) : Does Tryz.prog 142 [.int .i64 a0] (frame_Control K a0) (fun r => .bool r) := by
  refine Does.of Tryz.func142 rfl rfl rfl ?_
  unfold frame_Control
  refine RefC.seq ?_
  refine RefC.region ?_
  refine RefL.pure rfl rfl (RanP.assign rfl) ?_
  refine RefL.nil ?_
  refine RefE.next ?_
  refine RefC.seq ?_
  refine RefC.region ?_
  refine RefL.pure rfl rfl (RanP.move rfl) ?_
  refine RefL.pure rfl rfl (RanP.eql rfl rfl) ?_
  refine RefL.pure rfl rfl (RanP.move rfl) ?_
  refine RefL.cut (enc := fun (x1 : Bool) => ([(8, .bool x1), (0, .int .i64 a0)] : Env)) 3 ?_ ?_
  · refine RefL.ite (s := 5) rfl ?_ ?_
    · refine RefL.skip rfl rfl ?_
      refine RefL.skip rfl rfl ?_
      refine RefL.pure rfl rfl (RanP.pickT rfl rfl) ?_
      refine RefL.nil ?_
      exact RefE.fin (s := true) ⟨rfl, rfl, trivial⟩
    · refine RefL.pure rfl rfl (RanP.move rfl) ?_
      refine RefL.pure rfl rfl (RanP.eql rfl rfl) ?_
      refine RefL.pure rfl rfl (RanP.pickF rfl rfl) ?_
      refine RefL.nil ?_
      exact RefE.fin (s := (a0 == (9 : Int))) ⟨rfl, rfl, trivial⟩
  · intro x1
    refine RefL.pure rfl rfl (RanP.move rfl) ?_
    refine RefL.cut (enc := fun (x2 : Bool) => ([(12, .bool x2)] : Env)) 3 ?_ ?_
    · refine RefL.ite (s := 9) rfl ?_ ?_
      · refine RefL.skip rfl rfl ?_
        refine RefL.skip rfl rfl ?_
        refine RefL.pure rfl rfl (RanP.pickT rfl rfl) ?_
        refine RefL.nil ?_
        exact RefE.fin (s := true) ⟨rfl, trivial⟩
      · refine RefL.pure rfl rfl (RanP.move rfl) ?_
        refine RefL.pure rfl rfl (RanP.eql rfl rfl) ?_
        refine RefL.pure rfl rfl (RanP.pickF rfl rfl) ?_
        refine RefL.nil ?_
        exact RefE.fin (s := (a0 == (10 : Int))) ⟨rfl, trivial⟩
    · intro x2
      refine RefL.pure rfl rfl (RanP.assign rfl) ?_
      refine RefL.nil ?_
      refine RefE.next ?_
      refine RefC.ret ?_
      refine RefE.retV rfl ?_
      refine RefV.tmp rfl ?_
      exact RefV.nil rfl

def frame_known (K : Nat) (a0 : Int) : G (Bool) :=
  bnd (frame_Control K a0) fun x1 =>
  bnd (
    if x1 = true then
      ret true
    else
      ret (a0 == (0 : Int))) fun (x2 : Bool) =>
  bnd (
    if x2 = true then
      ret true
    else
      ret (a0 == (1 : Int))) fun (x3 : Bool) =>
  bnd (
    if x3 = true then
      ret true
    else
      ret (a0 == (2 : Int))) fun (x4 : Bool) =>
  ret x4
set_option maxRecDepth 100000 in
theorem frame_known_ref (K : Nat) (a0 : Int) : Does Tryz.prog 163 [.int .i64 a0] (frame_known K a0) (fun r => .bool r) := by
  refine Does.of Tryz.func163 rfl rfl rfl ?_
  unfold frame_known
  refine RefC.seq ?_
  refine RefC.region ?_
  refine RefL.pure rfl rfl (RanP.assign rfl) ?_
  refine RefL.nil ?_
  refine RefE.next ?_
  refine RefC.seq ?_
  refine RefC.region ?_
  refine RefL.pure rfl rfl (RanP.move rfl) ?_
  refine RefL.hv rfl rfl (Hv.call (frame_Control_ref K a0) Tryz.call142 rfl rfl rfl fun x1 => ?_)
  refine RefL.pure rfl rfl (RanP.move rfl) ?_
  refine RefL.cut (enc := fun (x2 : Bool) => ([(8, .bool x2), (0, .int .i64 a0)] : Env)) 3 ?_ ?_
  · refine RefL.ite (s := 5) rfl ?_ ?_
    · refine RefL.skip rfl rfl ?_
      refine RefL.skip rfl rfl ?_
      refine RefL.pure rfl rfl (RanP.pickT rfl rfl) ?_
      refine RefL.nil ?_
      exact RefE.fin (s := true) ⟨rfl, rfl, trivial⟩
    · refine RefL.pure rfl rfl (RanP.move rfl) ?_
      refine RefL.pure rfl rfl (RanP.eql rfl rfl) ?_
      refine RefL.pure rfl rfl (RanP.pickF rfl rfl) ?_
      refine RefL.nil ?_
      exact RefE.fin (s := (a0 == (0 : Int))) ⟨rfl, rfl, trivial⟩
  · intro x2
    refine RefL.pure rfl rfl (RanP.move rfl) ?_
    refine RefL.cut (enc := fun (x3 : Bool) => ([(12, .bool x3), (0, .int .i64 a0)] : Env)) 3 ?_ ?_
    · refine RefL.ite (s := 9) rfl ?_ ?_
      · refine RefL.skip rfl rfl ?_
        refine RefL.skip rfl rfl ?_
        refine RefL.pure rfl rfl (RanP.pickT rfl rfl) ?_
        refine RefL.nil ?_
        exact RefE.fin (s := true) ⟨rfl, rfl, trivial⟩
      · refine RefL.pure rfl rfl (RanP.move rfl) ?_
        refine RefL.pure rfl rfl (RanP.eql rfl rfl) ?_
        refine RefL.pure rfl rfl (RanP.pickF rfl rfl) ?_
        refine RefL.nil ?_
        exact RefE.fin (s := (a0 == (1 : Int))) ⟨rfl, rfl, trivial⟩
    · intro x3
      refine RefL.pure rfl rfl (RanP.move rfl) ?_
      refine RefL.cut (enc := fun (x4 : Bool) => ([(16, .bool x4)] : Env)) 3 ?_ ?_
      · refine RefL.ite (s := 13) rfl ?_ ?_
        · refine RefL.skip rfl rfl ?_
          refine RefL.skip rfl rfl ?_
          refine RefL.pure rfl rfl (RanP.pickT rfl rfl) ?_
          refine RefL.nil ?_
          exact RefE.fin (s := true) ⟨rfl, trivial⟩
        · refine RefL.pure rfl rfl (RanP.move rfl) ?_
          refine RefL.pure rfl rfl (RanP.eql rfl rfl) ?_
          refine RefL.pure rfl rfl (RanP.pickF rfl rfl) ?_
          refine RefL.nil ?_
          exact RefE.fin (s := (a0 == (2 : Int))) ⟨rfl, trivial⟩
      · intro x4
        refine RefL.pure rfl rfl (RanP.assign rfl) ?_
        refine RefL.nil ?_
        refine RefE.next ?_
        refine RefC.ret ?_
        refine RefE.retV rfl ?_
        refine RefV.tmp rfl ?_
        exact RefV.nil rfl

def mask_least_l0 (K : Nat) (a1 : Int) (a0 : Sl) (again : (Int × Int × Int) → G (Int × Int)) (s37 : Int × Int × Int) : G (Int × Int) :=
  if (decide (s37.2.2 < a1)) = true then
    bnd (
      if (decide (s37.2.2 < (a0.n : Int))) = true then
        drw <|
        ixA a0 s37.2.2 1 fun x42 =>
        ldI .u8 x42 fun x43 =>
        ixA a0 s37.2.2 1 fun x44 =>
        ldI .u8 x44 fun x45 =>
        ret (x43, x45)
      else
        ret ((0 : Int), (255 : Int))) fun (s46 : Int × Int) =>
    lt (orI .u64 (shlI .u64 s37.1 (8 : Int)) (IntKind.wrap .u64 s46.1)) fun x47 =>
    lt (orI .u64 (shlI .u64 s37.2.1 (8 : Int)) (IntKind.wrap .u64 s46.2)) fun x48 =>
    again (x47, x48, (IntKind.wrap .i64 (s37.2.2 + (1 : Int))))
  else
    ret (s37.1, s37.2.1)
def mask_least (K : Nat) (a0 : Sl) (a1 : Int) : G (Int × Int) :=
  bnd (
    loopG (mask_least_l0 K a1 a0) K ((0 : Int), (0 : Int), (0 : Int))) fun (s49 : Int × Int) =>
  ret (s49.1, s49.2)
set_option maxRecDepth 100000 in
theorem mask_least_ref (K : Nat) (a0 : Sl) (a1 : Int) : Does Tryz.prog 180 [.slice a0.a a0.n a0.c, .int .i64 a1] (mask_least K a0 a1) (fun r => .tuple #[.int .u64 r.1, .int .u64 r.2]) := by
  refine Does.of Tryz.func180 rfl rfl rfl ?_
  unfold mask_least
  refine RefC.seq ?_
  refine RefC.region ?_
  refine RefL.pure rfl rfl (RanP.assign rfl) ?_
  refine RefL.pure rfl rfl (RanP.assign rfl) ?_
  refine RefL.nil ?_
  refine RefE.next ?_
  refine RefC.seq ?_
  refine RefC.region ?_
  refine RefL.pure rfl rfl (RanP.assign rfl) ?_
  refine RefL.pure rfl rfl (RanP.assign rfl) ?_
  refine RefL.nil ?_
  refine RefE.next ?_
  refine RefC.seq ?_
  refine RefC.seq ?_
  refine RefC.region ?_
  refine RefL.pure rfl rfl (RanP.move rfl) ?_
  refine RefL.pure rfl rfl (RanP.move rfl) ?_
  refine RefL.nil ?_
  refine RefE.next ?_
  refine RefC.cut (enc := fun (s49 : Int × Int) => ([(6, .int .u64 s49.1), (7, .int .u64 s49.2)] : Env)) ?_ ?_
  · refine RefC.block ?_
    refine RefC.loopW (enc := fun (s37 : Int × Int × Int) => ([(6, .int .u64 s37.1), (7, .int .u64 s37.2.1), (12, .int .i64 s37.2.2), (0, .slice a0.a a0.n a0.c), (11, .int .i64 a1)] : Env)) ⟨rfl, rfl, rfl, rfl, rfl, trivial⟩ ?_ _
    intro again k ih s37
    unfold mask_least_l0
    refine RefC.seq ?_
    refine RefC.region ?_
    refine RefL.pure rfl rfl (RanP.lss rfl rfl) ?_
    refine RefL.nil ?_
    refine RefE.next ?_
    refine RefC.seq ?_
    refine RefC.cond rfl ?_ ?_
    · refine RefC.skip ?_
      refine RefE.next ?_
      refine RefC.seq ?_
      refine RefC.block ?_
      refine RefC.seq ?_
      refine RefC.region ?_
      refine RefL.pure rfl rfl (RanP.move rfl) ?_
      refine RefL.pure rfl rfl (RanP.assign rfl) ?_
      refine RefL.nil ?_
      refine RefE.next ?_
      refine RefC.seq ?_
      refine RefC.region ?_
      refine RefL.pure rfl rfl (RanP.assign rfl) ?_
      refine RefL.pure rfl rfl (RanP.assign rfl) ?_
      refine RefL.nil ?_
      refine RefE.next ?_
      refine RefC.seq ?_
      refine RefC.seq ?_
      refine RefC.region ?_
      refine RefL.pure rfl rfl (RanP.move rfl) ?_
      refine RefL.pure rfl rfl (RanP.move rfl) ?_
      refine RefL.pure rfl rfl (RanP.lenSl rfl Tryz.underlying49 rfl) ?_
      refine RefL.pure rfl rfl (RanP.lss rfl rfl) ?_
      refine RefL.nil ?_
      refine RefE.next ?_
      refine RefC.cut (enc := fun (s46 : Int × Int) => ([(9, .int .u8 s46.1), (10, .int .u8 s46.2), (0, .slice a0.a a0.n a0.c), (6, .int .u64 s37.1), (7, .int .u64 s37.2.1), (11, .int .i64 a1), (12, .int .i64 s37.2.2)] : Env)) ?_ ?_
      · refine RefC.cond rfl ?_ ?_
        · refine RefC.draw mixed [0, 0, 3, 7, 0, 0, 48, 112, 15, 511] [.lp 0, .lp 1, .lp 2, .li 3, .lp 4, .lp 5, .lp 6, .li 7, .lp 8, .lp 9] (by kernel_rfl) ?_
          refine RefD.pure (at_ rfl) rfl (RanP.move rfl) ?_
          refine RefD.pure (at_ rfl) rfl (RanP.move rfl) ?_
          refine RefD.any (at_ rfl) rfl (Lt.ixA Tryz.underlying49 Tryz.sizeOf5 rfl rfl fun x42 => ?_)
          refine RefD.li0 (at_ rfl) rfl (Lt.ldI Tryz.isAgg5 rfl fun x43 => ?_)
          refine RefD.pure (at_ rfl) rfl (RanP.move rfl) ?_
          refine RefD.pure (at_ rfl) rfl (RanP.move rfl) ?_
          refine RefD.any (at_ rfl) rfl (Lt.ixA Tryz.underlying49 Tryz.sizeOf5 rfl rfl fun x44 => ?_)
          refine RefD.li0 (at_ rfl) rfl (Lt.ldI Tryz.isAgg5 rfl fun x45 => ?_)
          refine RefD.pure (at_ rfl) rfl (RanP.assign rfl) ?_
          refine RefD.pure (at_ rfl) rfl (RanP.assign rfl) ?_
          refine RefD.nil ?_
          exact RefE.fin (s := (x43, x45)) ⟨rfl, rfl, rfl, rfl, rfl, rfl, rfl, trivial⟩
        · refine RefC.skip ?_
          exact RefE.fin (s := ((0 : Int), (255 : Int))) ⟨rfl, rfl, rfl, rfl, rfl, rfl, rfl, trivial⟩
      · intro s46
        refine RefE.next ?_
        refine RefC.region ?_
        refine RefL.pure rfl rfl (RanP.move rfl) ?_
        refine RefL.pure rfl rfl (RanP.shl (by decide) rfl rfl) ?_
        refine RefL.pure rfl rfl (RanP.move rfl) ?_
        refine RefL.pure rfl rfl (RanP.conv Tryz.underlying5 Tryz.underlying146 rfl) ?_
        refine RefL.pure rfl rfl (RanP.or rfl rfl) ?_
        refine RefL.pure rfl rfl (RanP.move rfl) ?_
        refine RefL.pure rfl rfl (RanP.shl (by decide) rfl rfl) ?_
        refine RefL.pure rfl rfl (RanP.move rfl) ?_
        refine RefL.pure rfl rfl (RanP.conv Tryz.underlying5 Tryz.underlying146 rfl) ?_
        refine RefL.pure rfl rfl (RanP.or rfl rfl) ?_
        refine RefL.pure rfl rfl (RanP.assign rfl) ?_
        refine RefL.lt 6 (fun y => .int .u64 y) rfl fun x47 => ?_
        refine RefL.pure rfl rfl (RanP.assign rfl) ?_
        refine RefL.lt 7 (fun y => .int .u64 y) rfl fun x48 => ?_
        refine RefL.nil ?_
        refine RefE.blockNormal ?_
        refine RefE.next ?_
        refine RefC.region ?_
        refine RefL.pure rfl rfl (RanP.add rfl rfl) ?_
        refine RefL.pure rfl rfl (RanP.move rfl) ?_
        refine RefL.nil ?_
        exact RefE.again (ih (x47, x48, (IntKind.wrap .i64 (s37.2.2 + (1 : Int))))) ⟨rfl, rfl, rfl, rfl, rfl, trivial⟩
    · refine RefC.exit ?_
      refine RefE.thenExit ?_
      refine RefE.roundExit ?_
      refine RefE.blockExit ?_
      exact RefE.fin (s := (s37.1, s37.2.1)) ⟨rfl, rfl, trivial⟩
  · intro s49
    refine RefE.next ?_
    refine RefC.seq ?_
    refine RefC.region ?_
    refine RefL.pure rfl rfl (RanP.move rfl) ?_
    refine RefL.pure rfl rfl (RanP.move rfl) ?_
    refine RefL.pure rfl rfl (RanP.assign rfl) ?_
    refine RefL.pure rfl rfl (RanP.assign rfl) ?_
    refine RefL.nil ?_
    refine RefE.next ?_
    refine RefC.ret ?_
    refine RefE.retV rfl ?_
    refine RefV.tmp rfl ?_
    refine RefV.tmp rfl ?_
    exact RefV.nil rfl

def mask_Get (K : Nat) (a0 : Sl) : G (Int × Int × Int) :=
  if ((a0.n : Int) == (0 : Int)) = true then
    ret ((0 : Int), (0 : Int), (80 : Int))
  else
    ixA a0 (0 : Int) 1 fun x1 =>
    ldI .u8 x1 fun x2 =>
    lt (andI .u8 x2 (127 : Int)) fun x3 =>
    lt (x3 == (126 : Int)) fun x4 =>
    bnd (
      if x4 = true then
        ret (.inl ((2 : Int), (126 : Int), (65535 : Int)))
      else
        lt (x3 == (127 : Int)) fun x7 =>
        if x7 = true then
          ret (.inl ((8 : Int), (65536 : Int), (9223372036854775807 : Int)))
        else
          lt (IntKind.wrap .u64 x3) fun x8 =>
          inr (ret (x8, (1 : Int), (0 : Int)))) (sumK fun (s9 : Int × Int × Int) =>
    slS a0 (some (1 : Int)) (some (if (IntKind.wrap .i64 ((1 : Int) + s9.1)) < (a0.n : Int) then (IntKind.wrap .i64 ((1 : Int) + s9.1)) else (a0.n : Int))) (some (a0.n : Int)) 1 fun x10 =>
    bnd (mask_least K x10 s9.1) fun x11 =>
    bnd (
      if (decide (x11.2 < s9.2.1)) = true then
        ret true
      else
        ret (decide (s9.2.2 < x11.1))) fun (x12 : Bool) =>
    if x12 = true then
      ret ((0 : Int), (0 : Int), (81 : Int))
    else
      lt (decide ((x10.n : Int) < s9.1)) fun x13 =>
      if x13 = true then
        ret ((0 : Int), (0 : Int), (80 : Int))
      else
        lt (IntKind.wrap .i64 ((1 : Int) + s9.1)) fun x14 =>
        ret (x11.1, x14, (0 : Int)))
set_option maxRecDepth 100000 in
theorem mask_Get_ref (K : Nat) (a0 : Sl) : Does Tryz.prog 164 [.slice a0.a a0.n a0.c] (mask_Get K a0) (fun r => .tuple #[.int .u64 r.1, .int .i64 r.2.1, .int .i64 r.2.2]) := by
  refine Does.of Tryz.func164 rfl rfl rfl ?_
  unfold mask_Get
  refine RefC.seq ?_
  refine RefC.region ?_
  refine RefL.pure rfl rfl (RanP.assign rfl) ?_
  refine RefL.pure rfl rfl (RanP.assign rfl) ?_
  refine RefL.pure rfl rfl (RanP.assign rfl) ?_
  refine RefL.nil ?_
  refine RefE.next ?_
  refine RefC.seq ?_
  refine RefC.seq ?_
  refine RefC.region ?_
  refine RefL.pure rfl rfl (RanP.move rfl) ?_
  refine RefL.pure rfl rfl (RanP.lenSl rfl Tryz.underlying49 rfl) ?_
  refine RefL.pure rfl rfl (RanP.eql rfl rfl) ?_
  refine RefL.nil ?_
  refine RefE.next ?_
  refine RefC.cond rfl ?_ ?_
  · refine RefC.seq ?_
    refine RefC.region ?_
    refine RefL.pure rfl rfl (RanP.assign rfl) ?_
    refine RefL.pure rfl rfl (RanP.assign rfl) ?_
    refine RefL.pure rfl rfl (RanP.assign rfl) ?_
    refine RefL.nil ?_
    refine RefE.next ?_
    refine RefC.ret ?_
    refine RefE.thenRet ?_
    refine RefE.retV rfl ?_
    refine RefV.tmp rfl ?_
    refine RefV.tmp rfl ?_
    refine RefV.tmp rfl ?_
    exact RefV.nil rfl
  · refine RefC.skip ?_
    refine RefE.next ?_
    refine RefC.seq ?_
    refine RefC.region ?_
    refine RefL.pure rfl rfl (RanP.move rfl) ?_
    refine RefL.li rfl rfl (Lt.ixA Tryz.underlying49 Tryz.sizeOf5 rfl rfl fun x1 => ?_)
    refine RefL.li rfl rfl (Lt.ldI Tryz.isAgg5 rfl fun x2 => ?_)
    refine RefL.pure rfl rfl (RanP.and rfl rfl) ?_
    refine RefL.pure rfl rfl (RanP.assign rfl) ?_
    refine RefL.lt 5 (fun y => .int .u8 y) rfl fun x3 => ?_
    refine RefL.nil ?_
    refine RefE.next ?_
    refine RefC.seq ?_
    refine RefC.region ?_
    refine RefL.pure rfl rfl (RanP.assign rfl) ?_
    refine RefL.pure rfl rfl (RanP.assign rfl) ?_
    refine RefL.pure rfl rfl (RanP.assign rfl) ?_
    refine RefL.nil ?_
    refine RefE.next ?_
    refine RefC.seq ?_
    refine RefC.seq ?_
    refine RefC.region ?_
    refine RefL.pure rfl rfl (RanP.move rfl) ?_
    refine RefL.nil ?_
    refine RefE.next ?_
    refine RefC.block ?_
    refine RefC.seq ?_
    refine RefC.region ?_
    refine RefL.pure rfl rfl (RanP.eql rfl rfl) ?_
    refine RefL.pure rfl rfl (RanP.assign rfl) ?_
    refine RefL.lt 22 (fun y => .bool y) rfl fun x4 => ?_
    refine RefL.nil ?_
    refine RefE.next ?_
    refine RefC.cutSum (enc := fun (s9 : Int × Int × Int) => ([(6, .int .i64 s9.1), (7, .int .u64 s9.2.1), (8, .int .u64 s9.2.2), (0, .slice a0.a a0.n a0.c)] : Env)) (KBlock.mono (KThen.mono KRet.mono)) ?_ ?_
    · refine RefC.cond rfl ?_ ?_
      · refine RefC.region ?_
        refine RefL.pure rfl rfl (RanP.assign rfl) ?_
        refine RefL.pure rfl rfl (RanP.assign rfl) ?_
        refine RefL.pure rfl rfl (RanP.assign rfl) ?_
        refine RefL.nil ?_
        exact RefE.finL (s := ((2 : Int), (126 : Int), (65535 : Int))) ⟨rfl, rfl, rfl, rfl, trivial⟩
      · refine RefC.seq ?_
        refine RefC.region ?_
        refine RefL.pure rfl rfl (RanP.eql rfl rfl) ?_
        refine RefL.pure rfl rfl (RanP.assign rfl) ?_
        refine RefL.lt 24 (fun y => .bool y) rfl fun x7 => ?_
        refine RefL.nil ?_
        refine RefE.next ?_
        refine RefC.cond rfl ?_ ?_
        · refine RefC.region ?_
          refine RefL.pure rfl rfl (RanP.assign rfl) ?_
          refine RefL.pure rfl rfl (RanP.assign rfl) ?_
          refine RefL.nil ?_
          exact RefE.finL (s := ((8 : Int), (65536 : Int), (9223372036854775807 : Int))) ⟨rfl, rfl, rfl, rfl, trivial⟩
        · refine RefC.seq ?_
          refine RefC.region ?_
          refine RefL.pure rfl rfl (RanP.move rfl) ?_
          refine RefL.pure rfl rfl (RanP.conv Tryz.underlying5 Tryz.underlying146 rfl) ?_
          refine RefL.pure rfl rfl (RanP.assign rfl) ?_
          refine RefL.lt 2 (fun y => .int .u64 y) rfl fun x8 => ?_
          refine RefL.pure rfl rfl (RanP.assign rfl) ?_
          refine RefL.pure rfl rfl (RanP.assign rfl) ?_
          refine RefL.nil ?_
          refine RefE.next ?_
          refine RefC.ret ?_
          refine RefE.finR ?_
          refine RefE.blockRet ?_
          refine RefE.thenRet ?_
          refine RefE.retV rfl ?_
          refine RefV.tmp rfl ?_
          refine RefV.tmp rfl ?_
          refine RefV.tmp rfl ?_
          exact RefV.nil rfl
    · intro s9
      refine RefE.blockNormal ?_
      refine RefE.next ?_
      refine RefC.seq ?_
      refine RefC.region ?_
      refine RefL.pure rfl rfl (RanP.move rfl) ?_
      refine RefL.pure rfl rfl (RanP.move rfl) ?_
      refine RefL.pure rfl rfl (RanP.lenSl rfl Tryz.underlying49 rfl) ?_
      refine RefL.pure rfl rfl (RanP.move rfl) ?_
      refine RefL.pure rfl rfl (RanP.add rfl rfl) ?_
      refine RefL.pure rfl rfl (RanP.min2 rfl) ?_
      refine RefL.pure rfl rfl (RanP.move rfl) ?_
      refine RefL.pure rfl rfl (RanP.lenSl rfl Tryz.underlying49 rfl) ?_
      refine RefL.li rfl rfl (Lt.slS (kl := .i64) (kh := .i64) (km := .i64) Tryz.underlying49 Tryz.sizeOf5 rfl rfl rfl rfl (by simp) fun x10 => ?_)
      refine RefL.pure rfl rfl (RanP.assign rfl) ?_
      refine RefL.nil ?_
      refine RefE.next ?_
      refine RefC.seq ?_
      refine RefC.region ?_
      refine RefL.pure rfl rfl (RanP.move rfl) ?_
      refine RefL.pure rfl rfl (RanP.move rfl) ?_
      refine RefL.hv rfl rfl (Hv.call (mask_least_ref K x10 s9.1) Tryz.call180 rfl rfl rfl fun x11 => ?_)
      refine RefL.pure rfl rfl (RanP.move rfl) ?_
      refine RefL.pure rfl rfl (RanP.extract rfl rfl) ?_
      refine RefL.pure rfl rfl (RanP.extract rfl rfl) ?_
      refine RefL.pure rfl rfl (RanP.assign rfl) ?_
      refine RefL.pure rfl rfl (RanP.assign rfl) ?_
      refine RefL.nil ?_
      refine RefE.next ?_
      refine RefC.seq ?_
      refine RefC.block ?_
      refine RefC.seq ?_
      refine RefC.region ?_
      refine RefL.pure rfl rfl (RanP.move rfl) ?_
      refine RefL.pure rfl rfl (RanP.move rfl) ?_
      refine RefL.pure rfl rfl (RanP.lss rfl rfl) ?_
      refine RefL.pure rfl rfl (RanP.move rfl) ?_
      refine RefL.cut (enc := fun (x12 : Bool) => ([(49, .bool x12), (6, .int .i64 s9.1), (9, .slice x10.a x10.n x10.c), (10, .int .u64 x11.1)] : Env)) 4 ?_ ?_
      · refine RefL.ite (s := 45) rfl ?_ ?_
        · refine RefL.skip rfl rfl ?_
          refine RefL.skip rfl rfl ?_
          refine RefL.skip rfl rfl ?_
          refine RefL.pure rfl rfl (RanP.pickT rfl rfl) ?_
          refine RefL.nil ?_
          exact RefE.fin (s := true) ⟨rfl, rfl, rfl, rfl, trivial⟩
        · refine RefL.pure rfl rfl (RanP.move rfl) ?_
          refine RefL.pure rfl rfl (RanP.move rfl) ?_
          refine RefL.pure rfl rfl (RanP.gtr rfl rfl) ?_
          refine RefL.pure rfl rfl (RanP.pickF rfl rfl) ?_
          refine RefL.nil ?_
          exact RefE.fin (s := (decide (s9.2.2 < x11.1))) ⟨rfl, rfl, rfl, rfl, trivial⟩
      · intro x12
        refine RefL.pure rfl rfl (RanP.assign rfl) ?_
        refine RefL.nil ?_
        refine RefE.next ?_
        refine RefC.cond rfl ?_ ?_
        · refine RefC.seq ?_
          refine RefC.region ?_
          refine RefL.pure rfl rfl (RanP.assign rfl) ?_
          refine RefL.pure rfl rfl (RanP.assign rfl) ?_
          refine RefL.pure rfl rfl (RanP.assign rfl) ?_
          refine RefL.nil ?_
          refine RefE.next ?_
          refine RefC.ret ?_
          refine RefE.blockRet ?_
          refine RefE.thenRet ?_
          refine RefE.retV rfl ?_
          refine RefV.tmp rfl ?_
          refine RefV.tmp rfl ?_
          refine RefV.tmp rfl ?_
          exact RefV.nil rfl
        · refine RefC.seq ?_
          refine RefC.region ?_
          refine RefL.pure rfl rfl (RanP.move rfl) ?_
          refine RefL.pure rfl rfl (RanP.lenSl rfl Tryz.underlying49 rfl) ?_
          refine RefL.pure rfl rfl (RanP.move rfl) ?_
          refine RefL.pure rfl rfl (RanP.lss rfl rfl) ?_
          refine RefL.pure rfl rfl (RanP.assign rfl) ?_
          refine RefL.lt 50 (fun y => .bool y) rfl fun x13 => ?_
          refine RefL.nil ?_
          refine RefE.next ?_
          refine RefC.cond rfl ?_ ?_
          · refine RefC.seq ?_
            refine RefC.region ?_
            refine RefL.pure rfl rfl (RanP.assign rfl) ?_
            refine RefL.pure rfl rfl (RanP.assign rfl) ?_
            refine RefL.pure rfl rfl (RanP.assign rfl) ?_
            refine RefL.nil ?_
            refine RefE.next ?_
            refine RefC.ret ?_
            refine RefE.blockRet ?_
            refine RefE.thenRet ?_
            refine RefE.retV rfl ?_
            refine RefV.tmp rfl ?_
            refine RefV.tmp rfl ?_
            refine RefV.tmp rfl ?_
            exact RefV.nil rfl
          · refine RefC.skip ?_
            refine RefE.blockNormal ?_
            refine RefE.next ?_
            refine RefC.seq ?_
            refine RefC.region ?_
            refine RefL.pure rfl rfl (RanP.move rfl) ?_
            refine RefL.pure rfl rfl (RanP.move rfl) ?_
            refine RefL.pure rfl rfl (RanP.add rfl rfl) ?_
            refine RefL.pure rfl rfl (RanP.assign rfl) ?_
            refine RefL.pure rfl rfl (RanP.assign rfl) ?_
            refine RefL.lt 3 (fun y => .int .i64 y) rfl fun x14 => ?_
            refine RefL.pure rfl rfl (RanP.assign rfl) ?_
            refine RefL.nil ?_
            refine RefE.next ?_
            refine RefC.ret ?_
            refine RefE.retV rfl ?_
            refine RefV.tmp rfl ?_
            refine RefV.tmp rfl ?_
            refine RefV.tmp rfl ?_
            exact RefV.nil rfl

end Go.Proofs.YtjdnjlnfcbaokaaGreat

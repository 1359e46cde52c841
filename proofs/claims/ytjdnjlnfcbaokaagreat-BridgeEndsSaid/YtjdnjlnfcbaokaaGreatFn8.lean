/-
  Go functions as programs over the world, and that the model's code does what they say. Printed by gen.py (own work).
-/
import Derived.Test.YtjdnjlnfcbaokaaGreatFn7
set_option linter.unusedVariables false
set_option linter.unusedSimpArgs false
namespace Go.Proofs.YtjdnjlnfcbaokaaGreat
open Go Go.Lg

def leg_Leg_Peek (K : Nat) (a0 : Option Addr) (a1 : Int) : G (Sl) :=
  nn a0 fun x1 =>
  ldP ((x1.add 14).add 0) fun x2 =>
  bnd (ring_Ring_Peek K x2 a1) fun x3 =>
  ret x3
set_option maxRecDepth 100000 in
theorem leg_Leg_Peek_ref (K : Nat) (a0 : Option Addr) (a1 : Int) : Does Tryz.prog 55 [.pointer a0, .int .i64 a1] (leg_Leg_Peek K a0 a1) (fun r => .slice r.a r.n r.c) := by
  refine Does.of Tryz.func55 rfl rfl rfl ?_
  unfold leg_Leg_Peek
  refine RefC.seq ?_
  refine RefC.region ?_
  refine RefL.pure rfl rfl (RanP.assign rfl) ?_
  refine RefL.nil ?_
  refine RefE.next ?_
  refine RefC.seq ?_
  refine RefC.region ?_
  refine RefL.pure rfl rfl (RanP.move rfl) ?_
  refine RefL.li rfl rfl (Lt.nn rfl fun x1 => ?_)
  refine RefL.pure rfl rfl (RanP.fieldAddr fa_109_3 rfl) ?_
  refine RefL.pure rfl rfl (RanP.fieldAddr fa_107_0 rfl) ?_
  refine RefL.li rfl rfl (Lt.ldP Tryz.isAgg105 rfl fun x2 => ?_)
  refine RefL.pure rfl rfl (RanP.move rfl) ?_
  refine RefL.hv rfl rfl (Hv.call (ring_Ring_Peek_ref K x2 a1) Tryz.call96 rfl rfl rfl fun x3 => ?_)
  refine RefL.pure rfl rfl (RanP.assign rfl) ?_
  refine RefL.nil ?_
  refine RefE.next ?_
  refine RefC.ret ?_
  refine RefE.retV rfl ?_
  refine RefV.tmp rfl ?_
  exact RefV.nil rfl

def bridge_Bridge_Peek (K : Nat) (a0 : Option Addr) (a1 : Int) (a2 : Int) : G (Sl) :=
  bnd (bridge_has K a1) fun x1 =>
  bnd (
    if (!x1) = true then
      ret true
    else
      nn a0 fun x3 =>
      chk (0 ≤ a1 ∧ a1 < ((2 : Nat) : Int)) <|
      ldB (((x3.add 12).add (a1.toNat * 7)).add 2) fun x5 =>
      ret x5) fun (x2 : Bool) =>
  if x2 = true then
    ret Sl.nil
  else
    nn a0 fun x6 =>
    chk (0 ≤ a1 ∧ a1 < ((2 : Nat) : Int)) <|
    ldP (((x6.add 12).add (a1.toNat * 7)).add 0) fun x8 =>
    bnd (leg_Leg_Peek K x8 a2) fun x9 =>
    ret x9
set_option maxRecDepth 100000 in
theorem bridge_Bridge_Peek_ref (K : Nat) (a0 : Option Addr) (a1 : Int) (a2 : Int) : Does Tryz.prog 40 [.pointer a0, .int .i64 a1, .int .i64 a2] (bridge_Bridge_Peek K a0 a1 a2) (fun r => .slice r.a r.n r.c) := by
  refine Does.of Tryz.func40 rfl rfl rfl ?_
  unfold bridge_Bridge_Peek
  refine RefC.seq ?_
  refine RefC.region ?_
  refine RefL.pure rfl rfl (RanP.assign rfl) ?_
  refine RefL.nil ?_
  refine RefE.next ?_
  refine RefC.seq ?_
  refine RefC.seq ?_
  refine RefC.region ?_
  refine RefL.pure rfl rfl (RanP.move rfl) ?_
  refine RefL.hv rfl rfl (Hv.call (bridge_has_ref K a1) Tryz.call83 rfl rfl rfl fun x1 => ?_)
  refine RefL.pure rfl rfl (RanP.not rfl) ?_
  refine RefL.pure rfl rfl (RanP.move rfl) ?_
  refine RefL.cut (enc := fun (x2 : Bool) => ([(18, .bool x2), (0, .pointer a0), (1, .int .i64 a1), (2, .int .i64 a2)] : Env)) 8 ?_ ?_
  · refine RefL.ite (s := 10) rfl ?_ ?_
    · refine RefL.skip rfl rfl ?_
      refine RefL.skip rfl rfl ?_
      refine RefL.skip rfl rfl ?_
      refine RefL.skip rfl rfl ?_
      refine RefL.skip rfl rfl ?_
      refine RefL.skip rfl rfl ?_
      refine RefL.skip rfl rfl ?_
      refine RefL.pure rfl rfl (RanP.pickT rfl rfl) ?_
      refine RefL.nil ?_
      exact RefE.fin (s := true) ⟨rfl, rfl, rfl, rfl, trivial⟩
    · refine RefL.pure rfl rfl (RanP.move rfl) ?_
      refine RefL.pure rfl rfl (RanP.move rfl) ?_
      refine RefL.li rfl rfl (Lt.nn rfl fun x3 => ?_)
      refine RefL.pure rfl rfl (RanP.fieldAddr fa_141_1 rfl) ?_
      refine RefL.chk fun h4 => ?_
      refine RefL.pure rfl rfl (RanP.ixArr (len := 2) h4 Tryz.underlying139 Tryz.sizeOf138 rfl rfl) ?_
      refine RefL.pure rfl rfl (RanP.fieldAddr fa_138_2 rfl) ?_
      refine RefL.li rfl rfl (Lt.ldB Tryz.isAgg4 rfl fun x5 => ?_)
      refine RefL.pure rfl rfl (RanP.pickF rfl rfl) ?_
      refine RefL.nil ?_
      exact RefE.fin (s := x5) ⟨rfl, rfl, rfl, rfl, trivial⟩
  · intro x2
    refine RefL.nil ?_
    refine RefE.next ?_
    refine RefC.cond rfl ?_ ?_
    · refine RefC.seq ?_
      refine RefC.region ?_
      refine RefL.pure rfl rfl (RanP.assign rfl) ?_
      refine RefL.nil ?_
      refine RefE.next ?_
      refine RefC.ret ?_
      refine RefE.thenRet ?_
      refine RefE.retV rfl ?_
      refine RefV.tmp rfl ?_
      exact RefV.nil rfl
    · refine RefC.skip ?_
      refine RefE.next ?_
      refine RefC.seq ?_
      refine RefC.region ?_
      refine RefL.pure rfl rfl (RanP.move rfl) ?_
      refine RefL.pure rfl rfl (RanP.move rfl) ?_
      refine RefL.li rfl rfl (Lt.nn rfl fun x6 => ?_)
      refine RefL.pure rfl rfl (RanP.fieldAddr fa_141_1 rfl) ?_
      refine RefL.chk fun h7 => ?_
      refine RefL.pure rfl rfl (RanP.ixArr (len := 2) h7 Tryz.underlying139 Tryz.sizeOf138 rfl rfl) ?_
      refine RefL.pure rfl rfl (RanP.fieldAddr fa_138_0 rfl) ?_
      refine RefL.li rfl rfl (Lt.ldP Tryz.isAgg30 rfl fun x8 => ?_)
      refine RefL.pure rfl rfl (RanP.move rfl) ?_
      refine RefL.hv rfl rfl (Hv.call (leg_Leg_Peek_ref K x8 a2) Tryz.call55 rfl rfl rfl fun x9 => ?_)
      refine RefL.pure rfl rfl (RanP.assign rfl) ?_
      refine RefL.nil ?_
      refine RefE.next ?_
      refine RefC.ret ?_
      refine RefE.retV rfl ?_
      refine RefV.tmp rfl ?_
      exact RefV.nil rfl

def ring_Ring_Take (K : Nat) (a0 : Option Addr) (a1 : Int) : G (Sl) :=
  bnd (ring_Ring_Peek K a0 a1) fun x1 =>
  drw <|
  nn a0 fun x2 =>
  ldI .i64 (x2.add 1) fun x3 =>
  nn a0 fun x4 =>
  ldSl (x4.add 0) fun x5 =>
  chk ((x5.n : Int) ≠ 0) <|
  nn a0 fun x7 =>
  st (x7.add 1) (.int .i64 (Int.tmod (IntKind.wrap .i64 (x3 + (x1.n : Int))) (x5.n : Int))) <|
  nn a0 fun x8 =>
  ldI .i64 (x8.add 2) fun x9 =>
  nn a0 fun x10 =>
  st (x10.add 2) (.int .i64 (IntKind.wrap .i64 (x9 - (x1.n : Int)))) <|
  ret x1
set_option maxRecDepth 100000 in
theorem ring_Ring_Take_ref (K : Nat) (a0 : Option Addr) (a1 : Int) : Does Tryz.prog 77 [.pointer a0, .int .i64 a1] (ring_Ring_Take K a0 a1) (fun r => .slice r.a r.n r.c) := by
  refine Does.of Tryz.func77 rfl rfl rfl ?_
  unfold ring_Ring_Take
  refine RefC.seq ?_
  refine RefC.region ?_
  refine RefL.pure rfl rfl (RanP.assign rfl) ?_
  refine RefL.nil ?_
  refine RefE.next ?_
  refine RefC.seq ?_
  refine RefC.region ?_
  refine RefL.pure rfl rfl (RanP.move rfl) ?_
  refine RefL.pure rfl rfl (RanP.move rfl) ?_
  refine RefL.hv rfl rfl (Hv.call (ring_Ring_Peek_ref K a0 a1) Tryz.call96 rfl rfl rfl fun x1 => ?_)
  refine RefL.pure rfl rfl (RanP.assign rfl) ?_
  refine RefL.nil ?_
  refine RefE.next ?_
  refine RefC.seq ?_
  refine RefC.draw mixed [0, 0, 2, 6, 14, 0, 32, 126, 0, 256, 768, 1792, 3840, 8190, 16383, 32767, 65535] [.lp 0, .lp 1, .lp 2, .lp 3, .li 4, .lp 5, .lp 6, .lp 7, .lp 8, .lp 9, .lp 10, .li 11, .lp 12, .lp 13, .lp 14, .lp 15, .hv 16] (by kernel_rfl) ?_
  refine RefD.pure (at_ rfl) rfl (RanP.move rfl) ?_
  refine RefD.pure (at_ rfl) rfl (RanP.move rfl) ?_
  refine RefD.any (at_ rfl) rfl (Lt.nn rfl fun x2 => ?_)
  refine RefD.pure (at_ rfl) rfl (RanP.fieldAddr fa_165_1 rfl) ?_
  refine RefD.li0 (at_ rfl) rfl (Lt.ldI Tryz.isAgg3 rfl fun x3 => ?_)
  refine RefD.pure (at_ rfl) rfl (RanP.move rfl) ?_
  refine RefD.pure (at_ rfl) rfl (RanP.lenSl rfl Tryz.underlying49 rfl) ?_
  refine RefD.pure (at_ rfl) rfl (RanP.add rfl rfl) ?_
  refine RefD.pure (at_ rfl) rfl (RanP.move rfl) ?_
  refine RefD.any (at_ rfl) rfl (Lt.nn rfl fun x4 => ?_)
  refine RefD.pure (at_ rfl) rfl (RanP.fieldAddr fa_165_0 rfl) ?_
  refine RefD.li0 (at_ rfl) rfl (Lt.ldSl Tryz.isAgg49 rfl fun x5 => ?_)
  refine RefD.pure (at_ rfl) rfl (RanP.lenSl rfl Tryz.underlying49 rfl) ?_
  refine RefD.chk fun h6 => ?_
  refine RefD.pure (at_ rfl) rfl (RanP.rem h6 rfl rfl) ?_
  refine RefD.any (at_ rfl) rfl (Lt.nn rfl fun x7 => ?_)
  refine RefD.pure (at_ rfl) rfl (RanP.fieldAddr fa_165_1 rfl) ?_
  refine RefD.hv (at_ rfl) rfl (Hv.st Tryz.sizeOf3 rfl rfl rfl ?_)
  refine RefD.nil ?_
  refine RefE.next ?_
  refine RefC.seq ?_
  refine RefC.region ?_
  refine RefL.pure rfl rfl (RanP.move rfl) ?_
  refine RefL.li rfl rfl (Lt.nn rfl fun x8 => ?_)
  refine RefL.pure rfl rfl (RanP.fieldAddr fa_165_2 rfl) ?_
  refine RefL.li rfl rfl (Lt.ldI Tryz.isAgg3 rfl fun x9 => ?_)
  refine RefL.pure rfl rfl (RanP.move rfl) ?_
  refine RefL.pure rfl rfl (RanP.lenSl rfl Tryz.underlying49 rfl) ?_
  refine RefL.pure rfl rfl (RanP.sub rfl rfl) ?_
  refine RefL.li rfl rfl (Lt.nn rfl fun x10 => ?_)
  refine RefL.pure rfl rfl (RanP.fieldAddr fa_165_2 rfl) ?_
  refine RefL.hv rfl rfl (Hv.st Tryz.sizeOf3 rfl rfl rfl ?_)
  refine RefL.nil ?_
  refine RefE.next ?_
  refine RefC.seq ?_
  refine RefC.region ?_
  refine RefL.pure rfl rfl (RanP.move rfl) ?_
  refine RefL.pure rfl rfl (RanP.assign rfl) ?_
  refine RefL.nil ?_
  refine RefE.next ?_
  refine RefC.ret ?_
  refine RefE.retV rfl ?_
  refine RefV.tmp rfl ?_
  exact RefV.nil rfl

def leg_Leg_Take (K : Nat) (a0 : Option Addr) (a1 : Int) : G (Sl) :=
  nn a0 fun x1 =>
  ldP ((x1.add 14).add 0) fun x2 =>
  bnd (ring_Ring_Take K x2 a1) fun x3 =>
  bnd (leg_Leg_move K a0) fun x4 =>
  ret x3
set_option maxRecDepth 100000 in
theorem leg_Leg_Take_ref (K : Nat) (a0 : Option Addr) (a1 : Int) : Does Tryz.prog 28 [.pointer a0, .int .i64 a1] (leg_Leg_Take K a0 a1) (fun r => .slice r.a r.n r.c) := by
  refine Does.of Tryz.func28 rfl rfl rfl ?_
  unfold leg_Leg_Take
  refine RefC.seq ?_
  refine RefC.region ?_
  refine RefL.pure rfl rfl (RanP.assign rfl) ?_
  refine RefL.nil ?_
  refine RefE.next ?_
  refine RefC.seq ?_
  refine RefC.region ?_
  refine RefL.pure rfl rfl (RanP.move rfl) ?_
  refine RefL.li rfl rfl (Lt.nn rfl fun x1 => ?_)
  refine RefL.pure rfl rfl (RanP.fieldAddr fa_109_3 rfl) ?_
  refine RefL.pure rfl rfl (RanP.fieldAddr fa_107_0 rfl) ?_
  refine RefL.li rfl rfl (Lt.ldP Tryz.isAgg105 rfl fun x2 => ?_)
  refine RefL.pure rfl rfl (RanP.move rfl) ?_
  refine RefL.hv rfl rfl (Hv.call (ring_Ring_Take_ref K x2 a1) Tryz.call77 rfl rfl rfl fun x3 => ?_)
  refine RefL.pure rfl rfl (RanP.assign rfl) ?_
  refine RefL.nil ?_
  refine RefE.next ?_
  refine RefC.seq ?_
  refine RefC.region ?_
  refine RefL.pure rfl rfl (RanP.move rfl) ?_
  refine RefL.hv rfl rfl (Hv.call (leg_Leg_move_ref K a0) Tryz.call75 rfl rfl rfl fun x4 => ?_)
  refine RefL.nil ?_
  refine RefE.next ?_
  refine RefC.seq ?_
  refine RefC.region ?_
  refine RefL.pure rfl rfl (RanP.move rfl) ?_
  refine RefL.pure rfl rfl (RanP.assign rfl) ?_
  refine RefL.nil ?_
  refine RefE.next ?_
  refine RefC.ret ?_
  refine RefE.retV rfl ?_
  refine RefV.tmp rfl ?_
  exact RefV.nil rfl

def bridge_Bridge_Take (K : Nat) (a0 : Option Addr) (a1 : Int) (a2 : Int) : G (Sl) :=
  bnd (bridge_has K a1) fun x1 =>
  bnd (
    if (!x1) = true then
      ret true
    else
      nn a0 fun x3 =>
      chk (0 ≤ a1 ∧ a1 < ((2 : Nat) : Int)) <|
      ldB (((x3.add 12).add (a1.toNat * 7)).add 2) fun x5 =>
      ret x5) fun (x2 : Bool) =>
  if x2 = true then
    ret Sl.nil
  else
    nn a0 fun x6 =>
    chk (0 ≤ a1 ∧ a1 < ((2 : Nat) : Int)) <|
    ldP (((x6.add 12).add (a1.toNat * 7)).add 0) fun x8 =>
    bnd (leg_Leg_Take K x8 a2) fun x9 =>
    bnd (bridge_Bridge_settle K a0) fun x10 =>
    ret x9
set_option maxRecDepth 100000 in
theorem bridge_Bridge_Take_ref (K : Nat) (a0 : Option Addr) (a1 : Int) (a2 : Int) : Does Tryz.prog 42 [.pointer a0, .int .i64 a1, .int .i64 a2] (bridge_Bridge_Take K a0 a1 a2) (fun r => .slice r.a r.n r.c) := by
  refine Does.of Tryz.func42 rfl rfl rfl ?_
  unfold bridge_Bridge_Take
  refine RefC.seq ?_
  refine RefC.region ?_
  refine RefL.pure rfl rfl (RanP.assign rfl) ?_
  refine RefL.nil ?_
  refine RefE.next ?_
  refine RefC.seq ?_
  refine RefC.seq ?_
  refine RefC.region ?_
  refine RefL.pure rfl rfl (RanP.move rfl) ?_
  refine RefL.hv rfl rfl (Hv.call (bridge_has_ref K a1) Tryz.call83 rfl rfl rfl fun x1 => ?_)
  refine RefL.pure rfl rfl (RanP.not rfl) ?_
  refine RefL.pure rfl rfl (RanP.move rfl) ?_
  refine RefL.cut (enc := fun (x2 : Bool) => ([(19, .bool x2), (0, .pointer a0), (1, .int .i64 a1), (2, .int .i64 a2)] : Env)) 8 ?_ ?_
  · refine RefL.ite (s := 11) rfl ?_ ?_
    · refine RefL.skip rfl rfl ?_
      refine RefL.skip rfl rfl ?_
      refine RefL.skip rfl rfl ?_
      refine RefL.skip rfl rfl ?_
      refine RefL.skip rfl rfl ?_
      refine RefL.skip rfl rfl ?_
      refine RefL.skip rfl rfl ?_
      refine RefL.pure rfl rfl (RanP.pickT rfl rfl) ?_
      refine RefL.nil ?_
      exact RefE.fin (s := true) ⟨rfl, rfl, rfl, rfl, trivial⟩
    · refine RefL.pure rfl rfl (RanP.move rfl) ?_
      refine RefL.pure rfl rfl (RanP.move rfl) ?_
      refine RefL.li rfl rfl (Lt.nn rfl fun x3 => ?_)
      refine RefL.pure rfl rfl (RanP.fieldAddr fa_141_1 rfl) ?_
      refine RefL.chk fun h4 => ?_
      refine RefL.pure rfl rfl (RanP.ixArr (len := 2) h4 Tryz.underlying139 Tryz.sizeOf138 rfl rfl) ?_
      refine RefL.pure rfl rfl (RanP.fieldAddr fa_138_2 rfl) ?_
      refine RefL.li rfl rfl (Lt.ldB Tryz.isAgg4 rfl fun x5 => ?_)
      refine RefL.pure rfl rfl (RanP.pickF rfl rfl) ?_
      refine RefL.nil ?_
      exact RefE.fin (s := x5) ⟨rfl, rfl, rfl, rfl, trivial⟩
  · intro x2
    refine RefL.nil ?_
    refine RefE.next ?_
    refine RefC.cond rfl ?_ ?_
    · refine RefC.seq ?_
      refine RefC.region ?_
      refine RefL.pure rfl rfl (RanP.assign rfl) ?_
      refine RefL.nil ?_
      refine RefE.next ?_
      refine RefC.ret ?_
      refine RefE.thenRet ?_
      refine RefE.retV rfl ?_
      refine RefV.tmp rfl ?_
      exact RefV.nil rfl
    · refine RefC.skip ?_
      refine RefE.next ?_
      refine RefC.seq ?_
      refine RefC.region ?_
      refine RefL.pure rfl rfl (RanP.move rfl) ?_
      refine RefL.pure rfl rfl (RanP.move rfl) ?_
      refine RefL.li rfl rfl (Lt.nn rfl fun x6 => ?_)
      refine RefL.pure rfl rfl (RanP.fieldAddr fa_141_1 rfl) ?_
      refine RefL.chk fun h7 => ?_
      refine RefL.pure rfl rfl (RanP.ixArr (len := 2) h7 Tryz.underlying139 Tryz.sizeOf138 rfl rfl) ?_
      refine RefL.pure rfl rfl (RanP.fieldAddr fa_138_0 rfl) ?_
      refine RefL.li rfl rfl (Lt.ldP Tryz.isAgg30 rfl fun x8 => ?_)
      refine RefL.pure rfl rfl (RanP.move rfl) ?_
      refine RefL.hv rfl rfl (Hv.call (leg_Leg_Take_ref K x8 a2) Tryz.call28 rfl rfl rfl fun x9 => ?_)
      refine RefL.pure rfl rfl (RanP.assign rfl) ?_
      refine RefL.nil ?_
      refine RefE.next ?_
      refine RefC.seq ?_
      refine RefC.region ?_
      refine RefL.pure rfl rfl (RanP.move rfl) ?_
      refine RefL.hv rfl rfl (Hv.call (bridge_Bridge_settle_ref K a0) Tryz.call87 rfl rfl rfl fun x10 => ?_)
      refine RefL.nil ?_
      refine RefE.next ?_
      refine RefC.seq ?_
      refine RefC.region ?_
      refine RefL.pure rfl rfl (RanP.move rfl) ?_
      refine RefL.pure rfl rfl (RanP.assign rfl) ?_
      refine RefL.nil ?_
      refine RefE.next ?_
      refine RefC.ret ?_
      refine RefE.retV rfl ?_
      refine RefV.tmp rfl ?_
      exact RefV.nil rfl

def queue_Queue_Size (K : Nat) (a0 : Option Addr) : G (Int) :=
  nn a0 fun x1 =>
  ldI .i64 (x1.add 3) fun x2 =>
  ret x2
set_option maxRecDepth 100000 in
theorem queue_Queue_Size_ref (K : Nat) (a0 : Option Addr) : Does Tryz.prog 93 [.pointer a0] (queue_Queue_Size K a0) (fun r => .int .i64 r) := by
  refine Does.of Tryz.func93 rfl rfl rfl ?_
  unfold queue_Queue_Size
  refine RefC.seq ?_
  refine RefC.region ?_
  refine RefL.pure rfl rfl (RanP.assign rfl) ?_
  refine RefL.nil ?_
  refine RefE.next ?_
  refine RefC.seq ?_
  refine RefC.region ?_
  refine RefL.pure rfl rfl (RanP.move rfl) ?_
  refine RefL.li rfl rfl (Lt.nn rfl fun x1 => ?_)
  refine RefL.pure rfl rfl (RanP.fieldAddr fa_188_3 rfl) ?_
  refine RefL.li rfl rfl (Lt.ldI Tryz.isAgg3 rfl fun x2 => ?_)
  refine RefL.pure rfl rfl (RanP.assign rfl) ?_
  refine RefL.nil ?_
  refine RefE.next ?_
  refine RefC.ret ?_
  refine RefE.retV rfl ?_
  refine RefV.tmp rfl ?_
  exact RefV.nil rfl

def bridge_Bridge_Waiting (K : Nat) (a0 : Option Addr) (a1 : Int) : G (Int × Int) :=
  bnd (bridge_has K a1) fun x1 =>
  if (!x1) = true then
    ret ((0 : Int), (0 : Int))
  else
    drw <|
    nn a0 fun x2 =>
    chk (0 ≤ a1 ∧ a1 < ((2 : Nat) : Int)) <|
    ldP (((x2.add 12).add (a1.toNat * 7)).add 1) fun x4 =>
    nn a0 fun x5 =>
    chk (0 ≤ a1 ∧ a1 < ((2 : Nat) : Int)) <|
    wld fun w8 =>
    ldP (((x5.add 12).add (a1.toNat * 7)).add 1) fun x7 =>
    bnd (queue_Queue_Len K x4) fun x9 =>
    agr (like (((x5.add 12).add (a1.toNat * 7)).add 1) 1 w8) <|
    bnd (queue_Queue_Size K x7) fun x10 =>
    ret (x9, x10)
set_option maxRecDepth 100000 in
theorem bridge_Bridge_Waiting_ref (K : Nat) (a0 : Option Addr) (a1 : Int) : Does Tryz.prog 52 [.pointer a0, .int .i64 a1] (bridge_Bridge_Waiting K a0 a1) (fun r => .tuple #[.int .i64 r.1, .int .i64 r.2]) := by
  refine Does.of Tryz.func52 rfl rfl rfl ?_
  unfold bridge_Bridge_Waiting
  refine RefC.seq ?_
  refine RefC.region ?_
  refine RefL.pure rfl rfl (RanP.assign rfl) ?_
  refine RefL.pure rfl rfl (RanP.assign rfl) ?_
  refine RefL.nil ?_
  refine RefE.next ?_
  refine RefC.seq ?_
  refine RefC.seq ?_
  refine RefC.region ?_
  refine RefL.pure rfl rfl (RanP.move rfl) ?_
  refine RefL.hv rfl rfl (Hv.call (bridge_has_ref K a1) Tryz.call83 rfl rfl rfl fun x1 => ?_)
  refine RefL.pure rfl rfl (RanP.not rfl) ?_
  refine RefL.nil ?_
  refine RefE.next ?_
  refine RefC.cond rfl ?_ ?_
  · refine RefC.seq ?_
    refine RefC.region ?_
    refine RefL.pure rfl rfl (RanP.assign rfl) ?_
    refine RefL.pure rfl rfl (RanP.assign rfl) ?_
    refine RefL.nil ?_
    refine RefE.next ?_
    refine RefC.ret ?_
    refine RefE.thenRet ?_
    refine RefE.retV rfl ?_
    refine RefV.tmp rfl ?_
    refine RefV.tmp rfl ?_
    exact RefV.nil rfl
  · refine RefC.skip ?_
    refine RefE.next ?_
    refine RefC.seq ?_
    refine RefC.draw mixed [0, 0, 1, 5, 15, 31, 63, 127, 0, 0, 256, 1280, 3840, 7936, 16128, 32767, 65535, 131071] [.lp 0, .lp 1, .lp 2, .lp 3, .lp 4, .lp 5, .li 6, .lp 8, .lp 9, .lp 10, .lp 11, .lp 12, .lp 13, .li 14, .hv 7, .re 14, .hv 15, .lp 16, .lp 17] (by kernel_rfl) ?_
    refine RefD.pure (at_ rfl) rfl (RanP.move rfl) ?_
    refine RefD.pure (at_ rfl) rfl (RanP.move rfl) ?_
    refine RefD.any (at_ rfl) rfl (Lt.nn rfl fun x2 => ?_)
    refine RefD.pure (at_ rfl) rfl (RanP.fieldAddr fa_141_1 rfl) ?_
    refine RefD.chk fun h3 => ?_
    refine RefD.pure (at_ rfl) rfl (RanP.ixArr (len := 2) h3 Tryz.underlying139 Tryz.sizeOf138 rfl rfl) ?_
    refine RefD.pure (at_ rfl) rfl (RanP.fieldAddr fa_138_1 rfl) ?_
    refine RefD.li0 (at_ rfl) rfl (Lt.ldP Tryz.isAgg136 rfl fun x4 => ?_)
    refine RefD.pure (at_ rfl) rfl (RanP.move rfl) ?_
    refine RefD.pure (at_ rfl) rfl (RanP.move rfl) ?_
    refine RefD.any (at_ rfl) rfl (Lt.nn rfl fun x5 => ?_)
    refine RefD.pure (at_ rfl) rfl (RanP.fieldAddr fa_141_1 rfl) ?_
    refine RefD.chk fun h6 => ?_
    refine RefD.pure (at_ rfl) rfl (RanP.ixArr (len := 2) h6 Tryz.underlying139 Tryz.sizeOf138 rfl rfl) ?_
    refine RefD.pure (at_ rfl) rfl (RanP.fieldAddr fa_138_1 rfl) ?_
    refine RefD.li (at_ rfl) rfl fun w8 => (Lt.ldP Tryz.isAgg136 rfl fun x7 => ?_)
    refine RefD.hv (at_ rfl) rfl (Hv.call (queue_Queue_Len_ref K x4) Tryz.call92 rfl rfl rfl fun x9 => ?_)
    refine RefD.re rfl ?_
    refine RefD.hv (at_ rfl) rfl (Hv.call (queue_Queue_Size_ref K x7) Tryz.call93 rfl rfl rfl fun x10 => ?_)
    refine RefD.pure (at_ rfl) rfl (RanP.assign rfl) ?_
    refine RefD.pure (at_ rfl) rfl (RanP.assign rfl) ?_
    refine RefD.nil ?_
    refine RefE.next ?_
    refine RefC.ret ?_
    refine RefE.retV rfl ?_
    refine RefV.tmp rfl ?_
    refine RefV.tmp rfl ?_
    exact RefV.nil rfl

def bridge_Bridge_Leg (K : Nat) (a0 : Option Addr) (a1 : Int) : G (Bool × Bool × Int) :=
  bnd (bridge_has K a1) fun x1 =>
  if (!x1) = true then
    ret (false, false, (0 : Int))
  else
    nn a0 fun x2 =>
    chk (0 ≤ a1 ∧ a1 < ((2 : Nat) : Int)) <|
    ldP (((x2.add 12).add (a1.toNat * 7)).add 0) fun x4 =>
    bnd (leg_Leg_Sent K x4) fun x5 =>
    bnd (leg_Leg_Got K x4) fun x6 =>
    bnd (leg_Leg_Wrong K x4) fun x7 =>
    ret (x5, x6, x7)
set_option maxRecDepth 100000 in
theorem bridge_Bridge_Leg_ref (K : Nat) (a0 : Option Addr) (a1 : Int) : Does Tryz.prog 44 [.pointer a0, .int .i64 a1] (bridge_Bridge_Leg K a0 a1) (fun r => .tuple #[.bool r.1, .bool r.2.1, .int .i64 r.2.2]) := by
  refine Does.of Tryz.func44 rfl rfl rfl ?_
  unfold bridge_Bridge_Leg
  refine RefC.seq ?_
  refine RefC.region ?_
  refine RefL.pure rfl rfl (RanP.assign rfl) ?_
  refine RefL.pure rfl rfl (RanP.assign rfl) ?_
  refine RefL.pure rfl rfl (RanP.assign rfl) ?_
  refine RefL.nil ?_
  refine RefE.next ?_
  refine RefC.seq ?_
  refine RefC.seq ?_
  refine RefC.region ?_
  refine RefL.pure rfl rfl (RanP.move rfl) ?_
  refine RefL.hv rfl rfl (Hv.call (bridge_has_ref K a1) Tryz.call83 rfl rfl rfl fun x1 => ?_)
  refine RefL.pure rfl rfl (RanP.not rfl) ?_
  refine RefL.nil ?_
  refine RefE.next ?_
  refine RefC.cond rfl ?_ ?_
  · refine RefC.seq ?_
    refine RefC.region ?_
    refine RefL.pure rfl rfl (RanP.assign rfl) ?_
    refine RefL.pure rfl rfl (RanP.assign rfl) ?_
    refine RefL.pure rfl rfl (RanP.assign rfl) ?_
    refine RefL.nil ?_
    refine RefE.next ?_
    refine RefC.ret ?_
    refine RefE.thenRet ?_
    refine RefE.retV rfl ?_
    refine RefV.tmp rfl ?_
    refine RefV.tmp rfl ?_
    refine RefV.tmp rfl ?_
    exact RefV.nil rfl
  · refine RefC.skip ?_
    refine RefE.next ?_
    refine RefC.seq ?_
    refine RefC.region ?_
    refine RefL.pure rfl rfl (RanP.move rfl) ?_
    refine RefL.pure rfl rfl (RanP.move rfl) ?_
    refine RefL.li rfl rfl (Lt.nn rfl fun x2 => ?_)
    refine RefL.pure rfl rfl (RanP.fieldAddr fa_141_1 rfl) ?_
    refine RefL.chk fun h3 => ?_
    refine RefL.pure rfl rfl (RanP.ixArr (len := 2) h3 Tryz.underlying139 Tryz.sizeOf138 rfl rfl) ?_
    refine RefL.pure rfl rfl (RanP.fieldAddr fa_138_0 rfl) ?_
    refine RefL.li rfl rfl (Lt.ldP Tryz.isAgg30 rfl fun x4 => ?_)
    refine RefL.pure rfl rfl (RanP.assign rfl) ?_
    refine RefL.nil ?_
    refine RefE.next ?_
    refine RefC.seq ?_
    refine RefC.region ?_
    refine RefL.pure rfl rfl (RanP.move rfl) ?_
    refine RefL.hv rfl rfl (Hv.call (leg_Leg_Sent_ref K x4) Tryz.call32 rfl rfl rfl fun x5 => ?_)
    refine RefL.pure rfl rfl (RanP.move rfl) ?_
    refine RefL.hv rfl rfl (Hv.call (leg_Leg_Got_ref K x4) Tryz.call35 rfl rfl rfl fun x6 => ?_)
    refine RefL.pure rfl rfl (RanP.move rfl) ?_
    refine RefL.hv rfl rfl (Hv.call (leg_Leg_Wrong_ref K x4) Tryz.call34 rfl rfl rfl fun x7 => ?_)
    refine RefL.pure rfl rfl (RanP.assign rfl) ?_
    refine RefL.pure rfl rfl (RanP.assign rfl) ?_
    refine RefL.pure rfl rfl (RanP.assign rfl) ?_
    refine RefL.nil ?_
    refine RefE.next ?_
    refine RefC.ret ?_
    refine RefE.retV rfl ?_
    refine RefV.tmp rfl ?_
    refine RefV.tmp rfl ?_
    refine RefV.tmp rfl ?_
    exact RefV.nil rfl

def ring_Ring_Len (K : Nat) (a0 : Option Addr) : G (Int) :=
  nn a0 fun x1 =>
  ldI .i64 (x1.add 2) fun x2 =>
  ret x2
set_option maxRecDepth 100000 in
theorem ring_Ring_Len_ref (K : Nat) (a0 : Option Addr) : Does Tryz.prog 79 [.pointer a0] (ring_Ring_Len K a0) (fun r => .int .i64 r) := by
  refine Does.of Tryz.func79 rfl rfl rfl ?_
  unfold ring_Ring_Len
  refine RefC.seq ?_
  refine RefC.region ?_
  refine RefL.pure rfl rfl (RanP.assign rfl) ?_
  refine RefL.nil ?_
  refine RefE.next ?_
  refine RefC.seq ?_
  refine RefC.region ?_
  refine RefL.pure rfl rfl (RanP.move rfl) ?_
  refine RefL.li rfl rfl (Lt.nn rfl fun x1 => ?_)
  refine RefL.pure rfl rfl (RanP.fieldAddr fa_165_2 rfl) ?_
  refine RefL.li rfl rfl (Lt.ldI Tryz.isAgg3 rfl fun x2 => ?_)
  refine RefL.pure rfl rfl (RanP.assign rfl) ?_
  refine RefL.nil ?_
  refine RefE.next ?_
  refine RefC.ret ?_
  refine RefE.retV rfl ?_
  refine RefV.tmp rfl ?_
  exact RefV.nil rfl

def leg_Leg_Quiet (K : Nat) (a0 : Option Addr) : G (Bool) :=
  nn a0 fun x1 =>
  ldP ((x1.add 14).add 0) fun x2 =>
  bnd (ring_Ring_Len K x2) fun x3 =>
  bnd (
    if (x3 == (0 : Int)) = true then
      nn a0 fun x5 =>
      ldSl ((x5.add 14).add 1) fun x6 =>
      ret ((x6.n : Int) == (0 : Int))
    else
      ret false) fun (x4 : Bool) =>
  bnd (
    if x4 = true then
      nn a0 fun x8 =>
      ldSl (x8.add 16) fun x9 =>
      ret ((x9.n : Int) == (0 : Int))
    else
      ret false) fun (x7 : Bool) =>
  bnd (
    if x7 = true then
      nn a0 fun x11 =>
      ldSl (x11.add 17) fun x12 =>
      ret ((x12.n : Int) == (0 : Int))
    else
      ret false) fun (x10 : Bool) =>
  ret x10
set_option maxRecDepth 100000 in
theorem leg_Leg_Quiet_ref (K : Nat) (a0 : Option Addr) : Does Tryz.prog 31 [.pointer a0] (leg_Leg_Quiet K a0) (fun r => .bool r) := by
  refine Does.of Tryz.func31 rfl rfl rfl ?_
  unfold leg_Leg_Quiet
  refine RefC.seq ?_
  refine RefC.region ?_
  refine RefL.pure rfl rfl (RanP.assign rfl) ?_
  refine RefL.nil ?_
  refine RefE.next ?_
  refine RefC.seq ?_
  refine RefC.region ?_
  refine RefL.pure rfl rfl (RanP.move rfl) ?_
  refine RefL.li rfl rfl (Lt.nn rfl fun x1 => ?_)
  refine RefL.pure rfl rfl (RanP.fieldAddr fa_109_3 rfl) ?_
  refine RefL.pure rfl rfl (RanP.fieldAddr fa_107_0 rfl) ?_
  refine RefL.li rfl rfl (Lt.ldP Tryz.isAgg105 rfl fun x2 => ?_)
  refine RefL.hv rfl rfl (Hv.call (ring_Ring_Len_ref K x2) Tryz.call79 rfl rfl rfl fun x3 => ?_)
  refine RefL.pure rfl rfl (RanP.eql rfl rfl) ?_
  refine RefL.pure rfl rfl (RanP.move rfl) ?_
  refine RefL.cut (enc := fun (x4 : Bool) => ([(18, .bool x4), (0, .pointer a0)] : Env)) 8 ?_ ?_
  · refine RefL.ite (s := 10) rfl ?_ ?_
    · refine RefL.pure rfl rfl (RanP.move rfl) ?_
      refine RefL.li rfl rfl (Lt.nn rfl fun x5 => ?_)
      refine RefL.pure rfl rfl (RanP.fieldAddr fa_109_3 rfl) ?_
      refine RefL.pure rfl rfl (RanP.fieldAddr fa_107_1 rfl) ?_
      refine RefL.li rfl rfl (Lt.ldSl Tryz.isAgg49 rfl fun x6 => ?_)
      refine RefL.pure rfl rfl (RanP.lenSl rfl Tryz.underlying49 rfl) ?_
      refine RefL.pure rfl rfl (RanP.eql rfl rfl) ?_
      refine RefL.pure rfl rfl (RanP.pickT rfl rfl) ?_
      refine RefL.nil ?_
      exact RefE.fin (s := ((x6.n : Int) == (0 : Int))) ⟨rfl, rfl, trivial⟩
    · refine RefL.skip rfl rfl ?_
      refine RefL.skip rfl rfl ?_
      refine RefL.skip rfl rfl ?_
      refine RefL.skip rfl rfl ?_
      refine RefL.skip rfl rfl ?_
      refine RefL.skip rfl rfl ?_
      refine RefL.skip rfl rfl ?_
      refine RefL.pure rfl rfl (RanP.pickF rfl rfl) ?_
      refine RefL.nil ?_
      exact RefE.fin (s := false) ⟨rfl, rfl, trivial⟩
  · intro x4
    refine RefL.pure rfl rfl (RanP.move rfl) ?_
    refine RefL.cut (enc := fun (x7 : Bool) => ([(26, .bool x7), (0, .pointer a0)] : Env)) 7 ?_ ?_
    · refine RefL.ite (s := 19) rfl ?_ ?_
      · refine RefL.pure rfl rfl (RanP.move rfl) ?_
        refine RefL.li rfl rfl (Lt.nn rfl fun x8 => ?_)
        refine RefL.pure rfl rfl (RanP.fieldAddr fa_109_4 rfl) ?_
        refine RefL.li rfl rfl (Lt.ldSl Tryz.isAgg34 rfl fun x9 => ?_)
        refine RefL.pure rfl rfl (RanP.lenSl rfl Tryz.underlying34 rfl) ?_
        refine RefL.pure rfl rfl (RanP.eql rfl rfl) ?_
        refine RefL.pure rfl rfl (RanP.pickT rfl rfl) ?_
        refine RefL.nil ?_
        exact RefE.fin (s := ((x9.n : Int) == (0 : Int))) ⟨rfl, rfl, trivial⟩
      · refine RefL.skip rfl rfl ?_
        refine RefL.skip rfl rfl ?_
        refine RefL.skip rfl rfl ?_
        refine RefL.skip rfl rfl ?_
        refine RefL.skip rfl rfl ?_
        refine RefL.skip rfl rfl ?_
        refine RefL.pure rfl rfl (RanP.pickF rfl rfl) ?_
        refine RefL.nil ?_
        exact RefE.fin (s := false) ⟨rfl, rfl, trivial⟩
    · intro x7
      refine RefL.pure rfl rfl (RanP.move rfl) ?_
      refine RefL.cut (enc := fun (x10 : Bool) => ([(34, .bool x10)] : Env)) 7 ?_ ?_
      · refine RefL.ite (s := 27) rfl ?_ ?_
        · refine RefL.pure rfl rfl (RanP.move rfl) ?_
          refine RefL.li rfl rfl (Lt.nn rfl fun x11 => ?_)
          refine RefL.pure rfl rfl (RanP.fieldAddr fa_109_5 rfl) ?_
          refine RefL.li rfl rfl (Lt.ldSl Tryz.isAgg34 rfl fun x12 => ?_)
          refine RefL.pure rfl rfl (RanP.lenSl rfl Tryz.underlying34 rfl) ?_
          refine RefL.pure rfl rfl (RanP.eql rfl rfl) ?_
          refine RefL.pure rfl rfl (RanP.pickT rfl rfl) ?_
          refine RefL.nil ?_
          exact RefE.fin (s := ((x12.n : Int) == (0 : Int))) ⟨rfl, trivial⟩
        · refine RefL.skip rfl rfl ?_
          refine RefL.skip rfl rfl ?_
          refine RefL.skip rfl rfl ?_
          refine RefL.skip rfl rfl ?_
          refine RefL.skip rfl rfl ?_
          refine RefL.skip rfl rfl ?_
          refine RefL.pure rfl rfl (RanP.pickF rfl rfl) ?_
          refine RefL.nil ?_
          exact RefE.fin (s := false) ⟨rfl, trivial⟩
      · intro x10
        refine RefL.pure rfl rfl (RanP.assign rfl) ?_
        refine RefL.nil ?_
        refine RefE.next ?_
        refine RefC.ret ?_
        refine RefE.retV rfl ?_
        refine RefV.tmp rfl ?_
        exact RefV.nil rfl

def bridge_side_over (K : Nat) (a0 : Option Addr) : G (Bool) :=
  nn a0 fun x1 =>
  ldB (x1.add 2) fun x2 =>
  bnd (
    if x2 = true then
      ret true
    else
      nn a0 fun x4 =>
      ldP (x4.add 0) fun x5 =>
      bnd (leg_Leg_Sent K x5) fun x6 =>
      bnd (
        if x6 = true then
          nn a0 fun x8 =>
          ldP (x8.add 0) fun x9 =>
          bnd (leg_Leg_Got K x9) fun x10 =>
          bnd (
            if x10 = true then
              ret true
            else
              nn a0 fun x12 =>
              ldP (x12.add 0) fun x13 =>
              bnd (leg_Leg_Wrong K x13) fun x14 =>
              ret (x14 != (0 : Int))) fun (x11 : Bool) =>
          ret x11
        else
          ret false) fun (x7 : Bool) =>
      bnd (
        if x7 = true then
          nn a0 fun x16 =>
          ldP (x16.add 0) fun x17 =>
          bnd (leg_Leg_Quiet K x17) fun x18 =>
          ret x18
        else
          ret false) fun (x15 : Bool) =>
      ret x15) fun (x3 : Bool) =>
  ret x3
set_option maxRecDepth 100000 in
theorem bridge_side_over_ref (K : Nat) (a0 : Option Addr) : Does Tryz.prog 88 [.pointer a0] (bridge_side_over K a0) (fun r => .bool r) := by
  refine Does.of Tryz.func88 rfl rfl rfl ?_
  unfold bridge_side_over
  refine RefC.seq ?_
  refine RefC.region ?_
  refine RefL.pure rfl rfl (RanP.assign rfl) ?_
  refine RefL.nil ?_
  refine RefE.next ?_
  refine RefC.seq ?_
  refine RefC.region ?_
  refine RefL.pure rfl rfl (RanP.move rfl) ?_
  refine RefL.li rfl rfl (Lt.nn rfl fun x1 => ?_)
  refine RefL.pure rfl rfl (RanP.fieldAddr fa_138_2 rfl) ?_
  refine RefL.li rfl rfl (Lt.ldB Tryz.isAgg4 rfl fun x2 => ?_)
  refine RefL.pure rfl rfl (RanP.move rfl) ?_
  refine RefL.cut (enc := fun (x3 : Bool) => ([(35, .bool x3)] : Env)) 28 ?_ ?_
  · refine RefL.ite (s := 7) rfl ?_ ?_
    · refine RefL.skip rfl rfl ?_
      refine RefL.skip rfl rfl ?_
      refine RefL.skip rfl rfl ?_
      refine RefL.skip rfl rfl ?_
      refine RefL.skip rfl rfl ?_
      refine RefL.skip rfl rfl ?_
      refine RefL.skip rfl rfl ?_
      refine RefL.skip rfl rfl ?_
      refine RefL.skip rfl rfl ?_
      refine RefL.skip rfl rfl ?_
      refine RefL.skip rfl rfl ?_
      refine RefL.skip rfl rfl ?_
      refine RefL.skip rfl rfl ?_
      refine RefL.skip rfl rfl ?_
      refine RefL.skip rfl rfl ?_
      refine RefL.skip rfl rfl ?_
      refine RefL.skip rfl rfl ?_
      refine RefL.skip rfl rfl ?_
      refine RefL.skip rfl rfl ?_
      refine RefL.skip rfl rfl ?_
      refine RefL.skip rfl rfl ?_
      refine RefL.skip rfl rfl ?_
      refine RefL.skip rfl rfl ?_
      refine RefL.skip rfl rfl ?_
      refine RefL.skip rfl rfl ?_
      refine RefL.skip rfl rfl ?_
      refine RefL.skip rfl rfl ?_
      refine RefL.pure rfl rfl (RanP.pickT rfl rfl) ?_
      refine RefL.nil ?_
      exact RefE.fin (s := true) ⟨rfl, trivial⟩
    · refine RefL.pure rfl rfl (RanP.move rfl) ?_
      refine RefL.li rfl rfl (Lt.nn rfl fun x4 => ?_)
      refine RefL.pure rfl rfl (RanP.fieldAddr fa_138_0 rfl) ?_
      refine RefL.li rfl rfl (Lt.ldP Tryz.isAgg30 rfl fun x5 => ?_)
      refine RefL.hv rfl rfl (Hv.call (leg_Leg_Sent_ref K x5) Tryz.call32 rfl rfl rfl fun x6 => ?_)
      refine RefL.pure rfl rfl (RanP.move rfl) ?_
      refine RefL.cut (enc := fun (x7 : Bool) => ([(27, .bool x7), (0, .pointer a0), (7, .bool false)] : Env)) 14 ?_ ?_
      · refine RefL.ite (s := 13) rfl ?_ ?_
        · refine RefL.pure rfl rfl (RanP.move rfl) ?_
          refine RefL.li rfl rfl (Lt.nn rfl fun x8 => ?_)
          refine RefL.pure rfl rfl (RanP.fieldAddr fa_138_0 rfl) ?_
          refine RefL.li rfl rfl (Lt.ldP Tryz.isAgg30 rfl fun x9 => ?_)
          refine RefL.hv rfl rfl (Hv.call (leg_Leg_Got_ref K x9) Tryz.call35 rfl rfl rfl fun x10 => ?_)
          refine RefL.pure rfl rfl (RanP.move rfl) ?_
          refine RefL.cut (enc := fun (x11 : Bool) => ([(26, .bool x11), (0, .pointer a0), (7, .bool false), (13, .bool true)] : Env)) 7 ?_ ?_
          · refine RefL.ite (s := 19) rfl ?_ ?_
            · refine RefL.skip rfl rfl ?_
              refine RefL.skip rfl rfl ?_
              refine RefL.skip rfl rfl ?_
              refine RefL.skip rfl rfl ?_
              refine RefL.skip rfl rfl ?_
              refine RefL.skip rfl rfl ?_
              refine RefL.pure rfl rfl (RanP.pickT rfl rfl) ?_
              refine RefL.nil ?_
              exact RefE.fin (s := true) ⟨rfl, rfl, rfl, rfl, trivial⟩
            · refine RefL.pure rfl rfl (RanP.move rfl) ?_
              refine RefL.li rfl rfl (Lt.nn rfl fun x12 => ?_)
              refine RefL.pure rfl rfl (RanP.fieldAddr fa_138_0 rfl) ?_
              refine RefL.li rfl rfl (Lt.ldP Tryz.isAgg30 rfl fun x13 => ?_)
              refine RefL.hv rfl rfl (Hv.call (leg_Leg_Wrong_ref K x13) Tryz.call34 rfl rfl rfl fun x14 => ?_)
              refine RefL.pure rfl rfl (RanP.neq rfl rfl) ?_
              refine RefL.pure rfl rfl (RanP.pickF rfl rfl) ?_
              refine RefL.nil ?_
              exact RefE.fin (s := (x14 != (0 : Int))) ⟨rfl, rfl, rfl, rfl, trivial⟩
          · intro x11
            refine RefL.pure rfl rfl (RanP.pickT rfl rfl) ?_
            refine RefL.nil ?_
            exact RefE.fin (s := x11) ⟨rfl, rfl, rfl, trivial⟩
        · refine RefL.skip rfl rfl ?_
          refine RefL.skip rfl rfl ?_
          refine RefL.skip rfl rfl ?_
          refine RefL.skip rfl rfl ?_
          refine RefL.skip rfl rfl ?_
          refine RefL.skip rfl rfl ?_
          refine RefL.skip rfl rfl ?_
          refine RefL.skip rfl rfl ?_
          refine RefL.skip rfl rfl ?_
          refine RefL.skip rfl rfl ?_
          refine RefL.skip rfl rfl ?_
          refine RefL.skip rfl rfl ?_
          refine RefL.skip rfl rfl ?_
          refine RefL.pure rfl rfl (RanP.pickF rfl rfl) ?_
          refine RefL.nil ?_
          exact RefE.fin (s := false) ⟨rfl, rfl, rfl, trivial⟩
      · intro x7
        refine RefL.pure rfl rfl (RanP.move rfl) ?_
        refine RefL.cut (enc := fun (x15 : Bool) => ([(34, .bool x15), (7, .bool false)] : Env)) 6 ?_ ?_
        · refine RefL.ite (s := 28) rfl ?_ ?_
          · refine RefL.pure rfl rfl (RanP.move rfl) ?_
            refine RefL.li rfl rfl (Lt.nn rfl fun x16 => ?_)
            refine RefL.pure rfl rfl (RanP.fieldAddr fa_138_0 rfl) ?_
            refine RefL.li rfl rfl (Lt.ldP Tryz.isAgg30 rfl fun x17 => ?_)
            refine RefL.hv rfl rfl (Hv.call (leg_Leg_Quiet_ref K x17) Tryz.call31 rfl rfl rfl fun x18 => ?_)
            refine RefL.pure rfl rfl (RanP.pickT rfl rfl) ?_
            refine RefL.nil ?_
            exact RefE.fin (s := x18) ⟨rfl, rfl, trivial⟩
          · refine RefL.skip rfl rfl ?_
            refine RefL.skip rfl rfl ?_
            refine RefL.skip rfl rfl ?_
            refine RefL.skip rfl rfl ?_
            refine RefL.skip rfl rfl ?_
            refine RefL.pure rfl rfl (RanP.pickF rfl rfl) ?_
            refine RefL.nil ?_
            exact RefE.fin (s := false) ⟨rfl, rfl, trivial⟩
        · intro x15
          refine RefL.pure rfl rfl (RanP.pickF rfl rfl) ?_
          refine RefL.nil ?_
          exact RefE.fin (s := x15) ⟨rfl, trivial⟩
  · intro x3
    refine RefL.pure rfl rfl (RanP.assign rfl) ?_
    refine RefL.nil ?_
    refine RefE.next ?_
    refine RefC.ret ?_
    refine RefE.retV rfl ?_
    refine RefV.tmp rfl ?_
    exact RefV.nil rfl

def bridge_Bridge_Over (K : Nat) (a0 : Option Addr) : G (Bool) :=
  nn a0 fun x1 =>
  bnd (bridge_side_over K (some ((x1.add 12).add ((0 : Int).toNat * 7)))) fun x2 =>
  bnd (
    if x2 = true then
      nn a0 fun x4 =>
      bnd (bridge_side_over K (some ((x4.add 12).add ((1 : Int).toNat * 7)))) fun x5 =>
      ret x5
    else
      ret false) fun (x3 : Bool) =>
  ret x3
set_option maxRecDepth 100000 in
theorem bridge_Bridge_Over_ref (K : Nat) (a0 : Option Addr) : Does Tryz.prog 45 [.pointer a0] (bridge_Bridge_Over K a0) (fun r => .bool r) := by
  refine Does.of Tryz.func45 rfl rfl rfl ?_
  unfold bridge_Bridge_Over
  refine RefC.seq ?_
  refine RefC.region ?_
  refine RefL.pure rfl rfl (RanP.assign rfl) ?_
  refine RefL.nil ?_
  refine RefE.next ?_
  refine RefC.seq ?_
  refine RefC.region ?_
  refine RefL.pure rfl rfl (RanP.move rfl) ?_
  refine RefL.li rfl rfl (Lt.nn rfl fun x1 => ?_)
  refine RefL.pure rfl rfl (RanP.fieldAddr fa_141_1 rfl) ?_
  refine RefL.pure rfl rfl (RanP.ixArr (len := 2) (by decide) Tryz.underlying139 Tryz.sizeOf138 rfl rfl) ?_
  refine RefL.hv rfl rfl (Hv.call (bridge_side_over_ref K (some ((x1.add 12).add ((0 : Int).toNat * 7)))) Tryz.call88 rfl rfl rfl fun x2 => ?_)
  refine RefL.pure rfl rfl (RanP.move rfl) ?_
  refine RefL.cut (enc := fun (x3 : Bool) => ([(14, .bool x3)] : Env)) 6 ?_ ?_
  · refine RefL.ite (s := 8) rfl ?_ ?_
    · refine RefL.pure rfl rfl (RanP.move rfl) ?_
      refine RefL.li rfl rfl (Lt.nn rfl fun x4 => ?_)
      refine RefL.pure rfl rfl (RanP.fieldAddr fa_141_1 rfl) ?_
      refine RefL.pure rfl rfl (RanP.ixArr (len := 2) (by decide) Tryz.underlying139 Tryz.sizeOf138 rfl rfl) ?_
      refine RefL.hv rfl rfl (Hv.call (bridge_side_over_ref K (some ((x4.add 12).add ((1 : Int).toNat * 7)))) Tryz.call88 rfl rfl rfl fun x5 => ?_)
      refine RefL.pure rfl rfl (RanP.pickT rfl rfl) ?_
      refine RefL.nil ?_
      exact RefE.fin (s := x5) ⟨rfl, trivial⟩
    · refine RefL.skip rfl rfl ?_
      refine RefL.skip rfl rfl ?_
      refine RefL.skip rfl rfl ?_
      refine RefL.skip rfl rfl ?_
      refine RefL.skip rfl rfl ?_
      refine RefL.pure rfl rfl (RanP.pickF rfl rfl) ?_
      refine RefL.nil ?_
      exact RefE.fin (s := false) ⟨rfl, trivial⟩
  · intro x3
    refine RefL.pure rfl rfl (RanP.assign rfl) ?_
    refine RefL.nil ?_
    refine RefE.next ?_
    refine RefC.ret ?_
    refine RefE.retV rfl ?_
    refine RefV.tmp rfl ?_
    exact RefV.nil rfl

def bridge_Bridge_Lost (K : Nat) (a0 : Option Addr) (a1 : Int) : G (Bool) :=
  bnd (bridge_has K a1) fun x1 =>
  bnd (
    if x1 = true then
      nn a0 fun x3 =>
      chk (0 ≤ a1 ∧ a1 < ((2 : Nat) : Int)) <|
      ldB (((x3.add 12).add (a1.toNat * 7)).add 2) fun x5 =>
      ret x5
    else
      ret false) fun (x2 : Bool) =>
  ret x2
set_option maxRecDepth 100000 in
theorem bridge_Bridge_Lost_ref (K : Nat) (a0 : Option Addr) (a1 : Int) : Does Tryz.prog 47 [.pointer a0, .int .i64 a1] (bridge_Bridge_Lost K a0 a1) (fun r => .bool r) := by
  refine Does.of Tryz.func47 rfl rfl rfl ?_
  unfold bridge_Bridge_Lost
  refine RefC.seq ?_
  refine RefC.region ?_
  refine RefL.pure rfl rfl (RanP.assign rfl) ?_
  refine RefL.nil ?_
  refine RefE.next ?_
  refine RefC.seq ?_
  refine RefC.region ?_
  refine RefL.pure rfl rfl (RanP.move rfl) ?_
  refine RefL.hv rfl rfl (Hv.call (bridge_has_ref K a1) Tryz.call83 rfl rfl rfl fun x1 => ?_)
  refine RefL.pure rfl rfl (RanP.move rfl) ?_
  refine RefL.cut (enc := fun (x2 : Bool) => ([(15, .bool x2)] : Env)) 8 ?_ ?_
  · refine RefL.ite (s := 7) rfl ?_ ?_
    · refine RefL.pure rfl rfl (RanP.move rfl) ?_
      refine RefL.pure rfl rfl (RanP.move rfl) ?_
      refine RefL.li rfl rfl (Lt.nn rfl fun x3 => ?_)
      refine RefL.pure rfl rfl (RanP.fieldAddr fa_141_1 rfl) ?_
      refine RefL.chk fun h4 => ?_
      refine RefL.pure rfl rfl (RanP.ixArr (len := 2) h4 Tryz.underlying139 Tryz.sizeOf138 rfl rfl) ?_
      refine RefL.pure rfl rfl (RanP.fieldAddr fa_138_2 rfl) ?_
      refine RefL.li rfl rfl (Lt.ldB Tryz.isAgg4 rfl fun x5 => ?_)
      refine RefL.pure rfl rfl (RanP.pickT rfl rfl) ?_
      refine RefL.nil ?_
      exact RefE.fin (s := x5) ⟨rfl, trivial⟩
    · refine RefL.skip rfl rfl ?_
      refine RefL.skip rfl rfl ?_
      refine RefL.skip rfl rfl ?_
      refine RefL.skip rfl rfl ?_
      refine RefL.skip rfl rfl ?_
      refine RefL.skip rfl rfl ?_
      refine RefL.skip rfl rfl ?_
      refine RefL.pure rfl rfl (RanP.pickF rfl rfl) ?_
      refine RefL.nil ?_
      exact RefE.fin (s := false) ⟨rfl, trivial⟩
  · intro x2
    refine RefL.pure rfl rfl (RanP.assign rfl) ?_
    refine RefL.nil ?_
    refine RefE.next ?_
    refine RefC.ret ?_
    refine RefE.retV rfl ?_
    refine RefV.tmp rfl ?_
    exact RefV.nil rfl

def law17_awake (K : Nat) : G (Bool) :=
  bnd (law17_Config K (A5u8.mk (99 : Int) (99 : Int) (99 : Int) (2 : Int) (99 : Int))) fun x1 =>
  bnd (bridge_New K x1 (0 : Int)) fun x2 =>
  bnd (
    if (x2.2 != (0 : Int)) = true then
      ret true
    else
      ret (Option.isNone x2.1)) fun (x3 : Bool) =>
  if x3 = true then
    ret false
  else
    new [.int .u8 (129 : Int), .int .u8 (130 : Int), .int .u8 (1 : Int), .int .u8 (2 : Int), .int .u8 (3 : Int), .int .u8 (4 : Int), .int .u8 (73 : Int), .int .u8 (107 : Int)] 5 fun x4 =>
    mrk (Sl.mk (some x4) 8 8) <|
    bnd (bridge_Bridge_Feed K x2.1 (0 : Int) (Sl.mk (some x4) 8 8)) fun x5 =>
    bnd (bridge_Bridge_Peek K x2.1 (1 : Int) (99 : Int)) fun x6 =>
    strOf x6 fun x7 =>
    bnd (bridge_Bridge_Take K x2.1 (1 : Int) (99 : Int)) fun x8 =>
    strOf x8 fun x9 =>
    bnd (bridge_Bridge_Waiting K x2.1 (0 : Int)) fun x10 =>
    bnd (bridge_Bridge_Leg K x2.1 (0 : Int)) fun x11 =>
    bnd (
      if (x5 == (8 : Int)) = true then
        ret (sEq x7 x9)
      else
        ret false) fun (x12 : Bool) =>
    bnd (
      if x12 = true then
        ret (sEq x9 (ByteArray.mk #[129, 130, 60, 110, 243, 95, 116, 7]))
      else
        ret false) fun (x13 : Bool) =>
    bnd (
      if x13 = true then
        ret (x10.1 == (0 : Int))
      else
        ret false) fun (x14 : Bool) =>
    bnd (
      if x14 = true then
        ret (x10.2 == (0 : Int))
      else
        ret false) fun (x15 : Bool) =>
    bnd (
      if x15 = true then
        ret (!x11.1)
      else
        ret false) fun (x16 : Bool) =>
    bnd (
      if x16 = true then
        ret (!x11.2.1)
      else
        ret false) fun (x17 : Bool) =>
    bnd (
      if x17 = true then
        ret (x11.2.2 == (0 : Int))
      else
        ret false) fun (x18 : Bool) =>
    bnd (
      if x18 = true then
        bnd (bridge_Bridge_Over K x2.1) fun x20 =>
        ret (!x20)
      else
        ret false) fun (x19 : Bool) =>
    bnd (
      if x19 = true then
        bnd (bridge_Bridge_Lost K x2.1 (0 : Int)) fun x22 =>
        ret (!x22)
      else
        ret false) fun (x21 : Bool) =>
    ret x21
set_option maxRecDepth 100000 in
theorem law17_awake_ref (K : Nat) : Does Tryz.prog 38 [] (law17_awake K) (fun r => .bool r) := by
  refine Does.of Tryz.func38 rfl rfl rfl ?_
  unfold law17_awake
  refine RefC.seq ?_
  refine RefC.region ?_
  refine RefL.pure rfl rfl (RanP.assign rfl) ?_
  refine RefL.nil ?_
  refine RefE.next ?_
  refine RefC.seq ?_
  refine RefC.region ?_
  refine RefL.pure rfl rfl (RanP.build rfl (v := .agg (Agg.cells (A5u8.mk (99 : Int) (99 : Int) (99 : Int) (2 : Int) (99 : Int))).toArray) (fun _ => by kernel_rfl)) ?_
  refine RefL.hv rfl rfl (Hv.call (law17_Config_ref K (A5u8.mk (99 : Int) (99 : Int) (99 : Int) (2 : Int) (99 : Int))) Tryz.call36 rfl rfl rfl fun x1 => ?_)
  refine RefL.hv rfl rfl (Hv.call (bridge_New_ref K x1 (0 : Int)) Tryz.call37 rfl rfl rfl fun x2 => ?_)
  refine RefL.pure rfl rfl (RanP.move rfl) ?_
  refine RefL.pure rfl rfl (RanP.extract rfl rfl) ?_
  refine RefL.pure rfl rfl (RanP.extract rfl rfl) ?_
  refine RefL.pure rfl rfl (RanP.assign rfl) ?_
  refine RefL.pure rfl rfl (RanP.assign rfl) ?_
  refine RefL.nil ?_
  refine RefE.next ?_
  refine RefC.seq ?_
  refine RefC.seq ?_
  refine RefC.region ?_
  refine RefL.pure rfl rfl (RanP.move rfl) ?_
  refine RefL.pure rfl rfl (RanP.neq rfl rfl) ?_
  refine RefL.pure rfl rfl (RanP.move rfl) ?_
  refine RefL.cut (enc := fun (x3 : Bool) => ([(22, .bool x3), (1, .pointer x2.1)] : Env)) 3 ?_ ?_
  · refine RefL.ite (s := 19) rfl ?_ ?_
    · refine RefL.skip rfl rfl ?_
      refine RefL.skip rfl rfl ?_
      refine RefL.pure rfl rfl (RanP.pickT rfl rfl) ?_
      refine RefL.nil ?_
      exact RefE.fin (s := true) ⟨rfl, rfl, trivial⟩
    · refine RefL.pure rfl rfl (RanP.move rfl) ?_
      refine RefL.pure rfl rfl (RanP.eqlNil Tryz.underlying68 rfl rfl) ?_
      refine RefL.pure rfl rfl (RanP.pickF rfl rfl) ?_
      refine RefL.nil ?_
      exact RefE.fin (s := (Option.isNone x2.1)) ⟨rfl, rfl, trivial⟩
  · intro x3
    refine RefL.nil ?_
    refine RefE.next ?_
    refine RefC.cond rfl ?_ ?_
    · refine RefC.seq ?_
      refine RefC.region ?_
      refine RefL.pure rfl rfl (RanP.assign rfl) ?_
      refine RefL.nil ?_
      refine RefE.next ?_
      refine RefC.ret ?_
      refine RefE.thenRet ?_
      refine RefE.retV rfl ?_
      refine RefV.tmp rfl ?_
      exact RefV.nil rfl
    · refine RefC.skip ?_
      refine RefE.next ?_
      refine RefC.seq ?_
      refine RefC.region ?_
      refine RefL.pure rfl rfl (RanP.move rfl) ?_
      refine RefL.hv rfl rfl (Hv.buildSlice rfl (cs := [.int .u8 (129 : Int), .int .u8 (130 : Int), .int .u8 (1 : Int), .int .u8 (2 : Int), .int .u8 (3 : Int), .int .u8 (4 : Int), .int .u8 (73 : Int), .int .u8 (107 : Int)]) (e := 5) (fun _ => by kernel_rfl) fun x4 => ?_)
      refine RefL.hv rfl rfl (Hv.mark Tryz.underlying49 Tryz.underlying5 rfl ?_)
      refine RefL.hv rfl rfl (Hv.call (bridge_Bridge_Feed_ref K x2.1 (0 : Int) (Sl.mk (some x4) 8 8)) Tryz.call41 rfl rfl rfl fun x5 => ?_)
      refine RefL.pure rfl rfl (RanP.assign rfl) ?_
      refine RefL.nil ?_
      refine RefE.next ?_
      refine RefC.seq ?_
      refine RefC.region ?_
      refine RefL.pure rfl rfl (RanP.move rfl) ?_
      refine RefL.hv rfl rfl (Hv.call (bridge_Bridge_Peek_ref K x2.1 (1 : Int) (99 : Int)) Tryz.call40 rfl rfl rfl fun x6 => ?_)
      refine RefL.li rfl rfl (Lt.strOf Tryz.underlying49 Tryz.underlying9 Tryz.underlying5 rfl fun x7 => ?_)
      refine RefL.pure rfl rfl (RanP.assign rfl) ?_
      refine RefL.nil ?_
      refine RefE.next ?_
      refine RefC.seq ?_
      refine RefC.region ?_
      refine RefL.pure rfl rfl (RanP.move rfl) ?_
      refine RefL.hv rfl rfl (Hv.call (bridge_Bridge_Take_ref K x2.1 (1 : Int) (99 : Int)) Tryz.call42 rfl rfl rfl fun x8 => ?_)
      refine RefL.li rfl rfl (Lt.strOf Tryz.underlying49 Tryz.underlying9 Tryz.underlying5 rfl fun x9 => ?_)
      refine RefL.pure rfl rfl (RanP.assign rfl) ?_
      refine RefL.nil ?_
      refine RefE.next ?_
      refine RefC.seq ?_
      refine RefC.region ?_
      refine RefL.pure rfl rfl (RanP.move rfl) ?_
      refine RefL.hv rfl rfl (Hv.call (bridge_Bridge_Waiting_ref K x2.1 (0 : Int)) Tryz.call52 rfl rfl rfl fun x10 => ?_)
      refine RefL.pure rfl rfl (RanP.move rfl) ?_
      refine RefL.pure rfl rfl (RanP.extract rfl rfl) ?_
      refine RefL.pure rfl rfl (RanP.extract rfl rfl) ?_
      refine RefL.pure rfl rfl (RanP.assign rfl) ?_
      refine RefL.pure rfl rfl (RanP.assign rfl) ?_
      refine RefL.nil ?_
      refine RefE.next ?_
      refine RefC.seq ?_
      refine RefC.region ?_
      refine RefL.pure rfl rfl (RanP.move rfl) ?_
      refine RefL.hv rfl rfl (Hv.call (bridge_Bridge_Leg_ref K x2.1 (0 : Int)) Tryz.call44 rfl rfl rfl fun x11 => ?_)
      refine RefL.pure rfl rfl (RanP.move rfl) ?_
      refine RefL.pure rfl rfl (RanP.extract rfl rfl) ?_
      refine RefL.pure rfl rfl (RanP.extract rfl rfl) ?_
      refine RefL.pure rfl rfl (RanP.extract rfl rfl) ?_
      refine RefL.pure rfl rfl (RanP.assign rfl) ?_
      refine RefL.pure rfl rfl (RanP.assign rfl) ?_
      refine RefL.pure rfl rfl (RanP.assign rfl) ?_
      refine RefL.nil ?_
      refine RefE.next ?_
      refine RefC.seq ?_
      refine RefC.region ?_
      refine RefL.pure rfl rfl (RanP.move rfl) ?_
      refine RefL.pure rfl rfl (RanP.eql rfl rfl) ?_
      refine RefL.pure rfl rfl (RanP.move rfl) ?_
      refine RefL.cut (enc := fun (x12 : Bool) => ([(50, .bool x12), (1, .pointer x2.1), (5, .string x9), (6, .int .i64 x10.1), (7, .int .i64 x10.2), (8, .bool x11.1), (9, .bool x11.2.1), (10, .int .i64 x11.2.2)] : Env)) 4 ?_ ?_
      · refine RefL.ite (s := 46) rfl ?_ ?_
        · refine RefL.pure rfl rfl (RanP.move rfl) ?_
          refine RefL.pure rfl rfl (RanP.move rfl) ?_
          refine RefL.pure rfl rfl (RanP.eqlS rfl rfl) ?_
          refine RefL.pure rfl rfl (RanP.pickT rfl rfl) ?_
          refine RefL.nil ?_
          exact RefE.fin (s := (sEq x7 x9)) ⟨rfl, rfl, rfl, rfl, rfl, rfl, rfl, rfl, trivial⟩
        · refine RefL.skip rfl rfl ?_
          refine RefL.skip rfl rfl ?_
          refine RefL.skip rfl rfl ?_
          refine RefL.pure rfl rfl (RanP.pickF rfl rfl) ?_
          refine RefL.nil ?_
          exact RefE.fin (s := false) ⟨rfl, rfl, rfl, rfl, rfl, rfl, rfl, rfl, trivial⟩
      · intro x12
        refine RefL.pure rfl rfl (RanP.move rfl) ?_
        refine RefL.cut (enc := fun (x13 : Bool) => ([(54, .bool x13), (1, .pointer x2.1), (6, .int .i64 x10.1), (7, .int .i64 x10.2), (8, .bool x11.1), (9, .bool x11.2.1), (10, .int .i64 x11.2.2)] : Env)) 3 ?_ ?_
        · refine RefL.ite (s := 51) rfl ?_ ?_
          · refine RefL.pure rfl rfl (RanP.move rfl) ?_
            refine RefL.pure rfl rfl (RanP.eqlS rfl rfl) ?_
            refine RefL.pure rfl rfl (RanP.pickT rfl rfl) ?_
            refine RefL.nil ?_
            exact RefE.fin (s := (sEq x9 (ByteArray.mk #[129, 130, 60, 110, 243, 95, 116, 7]))) ⟨rfl, rfl, rfl, rfl, rfl, rfl, rfl, trivial⟩
          · refine RefL.skip rfl rfl ?_
            refine RefL.skip rfl rfl ?_
            refine RefL.pure rfl rfl (RanP.pickF rfl rfl) ?_
            refine RefL.nil ?_
            exact RefE.fin (s := false) ⟨rfl, rfl, rfl, rfl, rfl, rfl, rfl, trivial⟩
        · intro x13
          refine RefL.pure rfl rfl (RanP.move rfl) ?_
          refine RefL.cut (enc := fun (x14 : Bool) => ([(58, .bool x14), (1, .pointer x2.1), (7, .int .i64 x10.2), (8, .bool x11.1), (9, .bool x11.2.1), (10, .int .i64 x11.2.2)] : Env)) 3 ?_ ?_
          · refine RefL.ite (s := 55) rfl ?_ ?_
            · refine RefL.pure rfl rfl (RanP.move rfl) ?_
              refine RefL.pure rfl rfl (RanP.eql rfl rfl) ?_
              refine RefL.pure rfl rfl (RanP.pickT rfl rfl) ?_
              refine RefL.nil ?_
              exact RefE.fin (s := (x10.1 == (0 : Int))) ⟨rfl, rfl, rfl, rfl, rfl, rfl, trivial⟩
            · refine RefL.skip rfl rfl ?_
              refine RefL.skip rfl rfl ?_
              refine RefL.pure rfl rfl (RanP.pickF rfl rfl) ?_
              refine RefL.nil ?_
              exact RefE.fin (s := false) ⟨rfl, rfl, rfl, rfl, rfl, rfl, trivial⟩
          · intro x14
            refine RefL.pure rfl rfl (RanP.move rfl) ?_
            refine RefL.cut (enc := fun (x15 : Bool) => ([(62, .bool x15), (1, .pointer x2.1), (8, .bool x11.1), (9, .bool x11.2.1), (10, .int .i64 x11.2.2)] : Env)) 3 ?_ ?_
            · refine RefL.ite (s := 59) rfl ?_ ?_
              · refine RefL.pure rfl rfl (RanP.move rfl) ?_
                refine RefL.pure rfl rfl (RanP.eql rfl rfl) ?_
                refine RefL.pure rfl rfl (RanP.pickT rfl rfl) ?_
                refine RefL.nil ?_
                exact RefE.fin (s := (x10.2 == (0 : Int))) ⟨rfl, rfl, rfl, rfl, rfl, trivial⟩
              · refine RefL.skip rfl rfl ?_
                refine RefL.skip rfl rfl ?_
                refine RefL.pure rfl rfl (RanP.pickF rfl rfl) ?_
                refine RefL.nil ?_
                exact RefE.fin (s := false) ⟨rfl, rfl, rfl, rfl, rfl, trivial⟩
            · intro x15
              refine RefL.pure rfl rfl (RanP.move rfl) ?_
              refine RefL.cut (enc := fun (x16 : Bool) => ([(66, .bool x16), (1, .pointer x2.1), (9, .bool x11.2.1), (10, .int .i64 x11.2.2)] : Env)) 3 ?_ ?_
              · refine RefL.ite (s := 63) rfl ?_ ?_
                · refine RefL.pure rfl rfl (RanP.move rfl) ?_
                  refine RefL.pure rfl rfl (RanP.not rfl) ?_
                  refine RefL.pure rfl rfl (RanP.pickT rfl rfl) ?_
                  refine RefL.nil ?_
                  exact RefE.fin (s := (!x11.1)) ⟨rfl, rfl, rfl, rfl, trivial⟩
                · refine RefL.skip rfl rfl ?_
                  refine RefL.skip rfl rfl ?_
                  refine RefL.pure rfl rfl (RanP.pickF rfl rfl) ?_
                  refine RefL.nil ?_
                  exact RefE.fin (s := false) ⟨rfl, rfl, rfl, rfl, trivial⟩
              · intro x16
                refine RefL.pure rfl rfl (RanP.move rfl) ?_
                refine RefL.cut (enc := fun (x17 : Bool) => ([(70, .bool x17), (1, .pointer x2.1), (10, .int .i64 x11.2.2)] : Env)) 3 ?_ ?_
                · refine RefL.ite (s := 67) rfl ?_ ?_
                  · refine RefL.pure rfl rfl (RanP.move rfl) ?_
                    refine RefL.pure rfl rfl (RanP.not rfl) ?_
                    refine RefL.pure rfl rfl (RanP.pickT rfl rfl) ?_
                    refine RefL.nil ?_
                    exact RefE.fin (s := (!x11.2.1)) ⟨rfl, rfl, rfl, trivial⟩
                  · refine RefL.skip rfl rfl ?_
                    refine RefL.skip rfl rfl ?_
                    refine RefL.pure rfl rfl (RanP.pickF rfl rfl) ?_
                    refine RefL.nil ?_
                    exact RefE.fin (s := false) ⟨rfl, rfl, rfl, trivial⟩
                · intro x17
                  refine RefL.pure rfl rfl (RanP.move rfl) ?_
                  refine RefL.cut (enc := fun (x18 : Bool) => ([(74, .bool x18), (1, .pointer x2.1)] : Env)) 3 ?_ ?_
                  · refine RefL.ite (s := 71) rfl ?_ ?_
                    · refine RefL.pure rfl rfl (RanP.move rfl) ?_
                      refine RefL.pure rfl rfl (RanP.eql rfl rfl) ?_
                      refine RefL.pure rfl rfl (RanP.pickT rfl rfl) ?_
                      refine RefL.nil ?_
                      exact RefE.fin (s := (x11.2.2 == (0 : Int))) ⟨rfl, rfl, trivial⟩
                    · refine RefL.skip rfl rfl ?_
                      refine RefL.skip rfl rfl ?_
                      refine RefL.pure rfl rfl (RanP.pickF rfl rfl) ?_
                      refine RefL.nil ?_
                      exact RefE.fin (s := false) ⟨rfl, rfl, trivial⟩
                  · intro x18
                    refine RefL.pure rfl rfl (RanP.move rfl) ?_
                    refine RefL.cut (enc := fun (x19 : Bool) => ([(79, .bool x19), (1, .pointer x2.1)] : Env)) 4 ?_ ?_
                    · refine RefL.ite (s := 75) rfl ?_ ?_
                      · refine RefL.pure rfl rfl (RanP.move rfl) ?_
                        refine RefL.hv rfl rfl (Hv.call (bridge_Bridge_Over_ref K x2.1) Tryz.call45 rfl rfl rfl fun x20 => ?_)
                        refine RefL.pure rfl rfl (RanP.not rfl) ?_
                        refine RefL.pure rfl rfl (RanP.pickT rfl rfl) ?_
                        refine RefL.nil ?_
                        exact RefE.fin (s := (!x20)) ⟨rfl, rfl, trivial⟩
                      · refine RefL.skip rfl rfl ?_
                        refine RefL.skip rfl rfl ?_
                        refine RefL.skip rfl rfl ?_
                        refine RefL.pure rfl rfl (RanP.pickF rfl rfl) ?_
                        refine RefL.nil ?_
                        exact RefE.fin (s := false) ⟨rfl, rfl, trivial⟩
                    · intro x19
                      refine RefL.pure rfl rfl (RanP.move rfl) ?_
                      refine RefL.cut (enc := fun (x21 : Bool) => ([(84, .bool x21)] : Env)) 4 ?_ ?_
                      · refine RefL.ite (s := 80) rfl ?_ ?_
                        · refine RefL.pure rfl rfl (RanP.move rfl) ?_
                          refine RefL.hv rfl rfl (Hv.call (bridge_Bridge_Lost_ref K x2.1 (0 : Int)) Tryz.call47 rfl rfl rfl fun x22 => ?_)
                          refine RefL.pure rfl rfl (RanP.not rfl) ?_
                          refine RefL.pure rfl rfl (RanP.pickT rfl rfl) ?_
                          refine RefL.nil ?_
                          exact RefE.fin (s := (!x22)) ⟨rfl, trivial⟩
                        · refine RefL.skip rfl rfl ?_
                          refine RefL.skip rfl rfl ?_
                          refine RefL.skip rfl rfl ?_
                          refine RefL.pure rfl rfl (RanP.pickF rfl rfl) ?_
                          refine RefL.nil ?_
                          exact RefE.fin (s := false) ⟨rfl, trivial⟩
                      · intro x21
                        refine RefL.pure rfl rfl (RanP.assign rfl) ?_
                        refine RefL.nil ?_
                        refine RefE.next ?_
                        refine RefC.ret ?_
                        refine RefE.retV rfl ?_
                        refine RefV.tmp rfl ?_
                        exact RefV.nil rfl

def law17_few (K : Nat) (a0 : Tref17_Act) : G (Bool) :=
  new (Agg.cells a0) 90 fun x1 =>
  ldS (x1.add 3) fun x2 =>
  lt (decide ((x2.size : Int) ≤ (300 : Int))) fun x3 =>
  ret x3
set_option maxRecDepth 100000 in
theorem law17_few_ref (K : Nat) (a0 : Tref17_Act) : Does Tryz.prog 48 [.agg (Agg.cells a0).toArray] (law17_few K a0) (fun r => .bool r) := by
  refine Does.of Tryz.func48 rfl rfl rfl ?_
  unfold law17_few
  refine RefC.seq ?_
  refine RefC.region ?_
  refine RefL.hv rfl rfl (Hv.box rfl rfl fun x1 => ?_)
  refine RefL.pure rfl rfl (RanP.assign rfl) ?_
  refine RefL.nil ?_
  refine RefE.next ?_
  refine RefC.seq ?_
  refine RefC.region ?_
  refine RefL.pure rfl rfl (RanP.fieldAddr fa_90_3 rfl) ?_
  refine RefL.li rfl rfl (Lt.ldS Tryz.isAgg9 rfl fun x2 => ?_)
  refine RefL.pure rfl rfl (RanP.lenS rfl Tryz.underlying9 rfl) ?_
  refine RefL.pure rfl rfl (RanP.leq rfl rfl) ?_
  refine RefL.pure rfl rfl (RanP.assign rfl) ?_
  refine RefL.lt 2 (fun y => .bool y) rfl fun x3 => ?_
  refine RefL.nil ?_
  refine RefE.next ?_
  refine RefC.ret ?_
  refine RefE.retV rfl ?_
  refine RefV.tmp rfl ?_
  exact RefV.nil rfl

def bridge_Bridge_lose (K : Nat) (a0 : Option Addr) (a1 : Int) : G (Unit) :=
  nn a0 fun x1 =>
  chk (0 ≤ a1 ∧ a1 < ((2 : Nat) : Int)) <|
  st (((x1.add 12).add (a1.toNat * 7)).add 2) (.bool true) <|
  drw <|
  nn a0 fun x3 =>
  chk (0 ≤ (IntKind.wrap .i64 ((1 : Int) - a1)) ∧ (IntKind.wrap .i64 ((1 : Int) - a1)) < ((2 : Nat) : Int)) <|
  bnd (close_Across K (1006 : Int)) fun x5 =>
  bnd (bridge_side_end K (some ((x3.add 12).add ((IntKind.wrap .i64 ((1 : Int) - a1)).toNat * 7))) x5) fun x6 =>
  ret ()
set_option maxRecDepth 100000 in
theorem bridge_Bridge_lose_ref (K : Nat) (a0 : Option Addr) (a1 : Int) : Does Tryz.prog 90 [.pointer a0, .int .i64 a1] (bridge_Bridge_lose K a0 a1) (fun _ => .tuple #[]) := by
  refine Does.of Tryz.func90 rfl rfl rfl ?_
  unfold bridge_Bridge_lose
  refine RefC.seq ?_
  refine RefC.region ?_
  refine RefL.pure rfl rfl (RanP.move rfl) ?_
  refine RefL.pure rfl rfl (RanP.move rfl) ?_
  refine RefL.li rfl rfl (Lt.nn rfl fun x1 => ?_)
  refine RefL.pure rfl rfl (RanP.fieldAddr fa_141_1 rfl) ?_
  refine RefL.chk fun h2 => ?_
  refine RefL.pure rfl rfl (RanP.ixArr (len := 2) h2 Tryz.underlying139 Tryz.sizeOf138 rfl rfl) ?_
  refine RefL.pure rfl rfl (RanP.fieldAddr fa_138_2 rfl) ?_
  refine RefL.hv rfl rfl (Hv.st Tryz.sizeOf4 rfl rfl rfl ?_)
  refine RefL.nil ?_
  refine RefE.next ?_
  refine RefC.draw mixed [0, 0, 2, 1, 9, 31, 0, 127] [.lp 0, .lp 1, .lp 2, .lp 3, .lp 4, .lp 5, .hv 6, .hv 7] (by kernel_rfl) ?_
  refine RefD.pure (at_ rfl) rfl (RanP.move rfl) ?_
  refine RefD.pure (at_ rfl) rfl (RanP.move rfl) ?_
  refine RefD.pure (at_ rfl) rfl (RanP.sub rfl rfl) ?_
  refine RefD.any (at_ rfl) rfl (Lt.nn rfl fun x3 => ?_)
  refine RefD.pure (at_ rfl) rfl (RanP.fieldAddr fa_141_1 rfl) ?_
  refine RefD.chk fun h4 => ?_
  refine RefD.pure (at_ rfl) rfl (RanP.ixArr (len := 2) h4 Tryz.underlying139 Tryz.sizeOf138 rfl rfl) ?_
  refine RefD.hv (at_ rfl) rfl (Hv.call (close_Across_ref K (1006 : Int)) Tryz.call113 rfl rfl rfl fun x5 => ?_)
  refine RefD.hv (at_ rfl) rfl (Hv.call (bridge_side_end_ref K (some ((x3.add 12).add ((IntKind.wrap .i64 ((1 : Int) - a1)).toNat * 7))) x5) Tryz.call124 rfl rfl rfl fun x6 => ?_)
  refine RefD.nil ?_
  refine RefE.endV rfl ?_
  exact RefV.nil rfl

end Go.Proofs.YtjdnjlnfcbaokaaGreat

/-
  Go functions as programs over the world, and that the model's code does what they say. Printed by gen.py (own work).
-/
import Derived.Test.YtjdnjlnfcbaokaaFn5
set_option linter.unusedVariables false
set_option linter.unusedSimpArgs false
namespace Go.Proofs.Ytjdnjlnfcbaokaa
open Go Go.Lg

def ring_Ring_Take (K : Nat) (a0 : Option Addr) (a1 : Int) : G (Sl) :=
  bnd (ring_Ring_Peek K a0 a1) fun x1 =>
  drw <|
  nn a0 fun x2 =>
  ldI .i64 (x2.add 1) fun x3 =>
  nn a0 fun x4 =>
  ldSl (x4.add 0) fun x5 =>
  chk ((x5.n : Int) ≠ 0) <|
  nn a0 fun x7 =>
  st (x7.add 1) (.int .i64 (Int.tmod (IntKind.wrap .i64 (x3 + (x1.n : Int))) (x5.n : Int))) <|
  nn a0 fun x8 =>
  ldI .i64 (x8.add 2) fun x9 =>
  nn a0 fun x10 =>
  st (x10.add 2) (.int .i64 (IntKind.wrap .i64 (x9 - (x1.n : Int)))) <|
  ret x1
set_option maxRecDepth 100000 in
theorem ring_Ring_Take_ref (K : Nat) (a0 : Option Addr) (a1 : Int) : Does Try.prog 37 [.pointer a0, .int .i64 a1] (ring_Ring_Take K a0 a1) (fun r => .slice r.a r.n r.c) := by
  refine Does.of Try.func37 rfl rfl rfl ?_
  unfold ring_Ring_Take
  refine RefC.seq ?_
  refine RefC.region ?_
  refine RefL.pure rfl rfl (RanP.assign rfl) ?_
  refine RefL.nil ?_
  refine RefE.next ?_
  refine RefC.seq ?_
  refine RefC.region ?_
  refine RefL.pure rfl rfl (RanP.move rfl) ?_
  refine RefL.pure rfl rfl (RanP.move rfl) ?_
  refine RefL.hv rfl rfl (Hv.call (ring_Ring_Peek_ref K a0 a1) Try.call38 rfl rfl rfl fun x1 => ?_)
  refine RefL.pure rfl rfl (RanP.assign rfl) ?_
  refine RefL.nil ?_
  refine RefE.next ?_
  refine RefC.seq ?_
  refine RefC.draw mixed [0, 0, 2, 6, 14, 0, 32, 126, 0, 256, 768, 1792, 3840, 8190, 16383, 32767, 65535] [.lp 0, .lp 1, .lp 2, .lp 3, .li 4, .lp 5, .lp 6, .lp 7, .lp 8, .lp 9, .lp 10, .li 11, .lp 12, .lp 13, .lp 14, .lp 15, .hv 16] (by kernel_rfl) ?_
  refine RefD.pure (at_ rfl) rfl (RanP.move rfl) ?_
  refine RefD.pure (at_ rfl) rfl (RanP.move rfl) ?_
  refine RefD.any (at_ rfl) rfl (Lt.nn rfl fun x2 => ?_)
  refine RefD.pure (at_ rfl) rfl (RanP.fieldAddr fa_99_1 rfl) ?_
  refine RefD.li0 (at_ rfl) rfl (Lt.ldI Try.isAgg3 rfl fun x3 => ?_)
  refine RefD.pure (at_ rfl) rfl (RanP.move rfl) ?_
  refine RefD.pure (at_ rfl) rfl (RanP.lenSl rfl Try.underlying36 rfl) ?_
  refine RefD.pure (at_ rfl) rfl (RanP.add rfl rfl) ?_
  refine RefD.pure (at_ rfl) rfl (RanP.move rfl) ?_
  refine RefD.any (at_ rfl) rfl (Lt.nn rfl fun x4 => ?_)
  refine RefD.pure (at_ rfl) rfl (RanP.fieldAddr fa_99_0 rfl) ?_
  refine RefD.li0 (at_ rfl) rfl (Lt.ldSl Try.isAgg36 rfl fun x5 => ?_)
  refine RefD.pure (at_ rfl) rfl (RanP.lenSl rfl Try.underlying36 rfl) ?_
  refine RefD.chk fun h6 => ?_
  refine RefD.pure (at_ rfl) rfl (RanP.rem h6 rfl rfl) ?_
  refine RefD.any (at_ rfl) rfl (Lt.nn rfl fun x7 => ?_)
  refine RefD.pure (at_ rfl) rfl (RanP.fieldAddr fa_99_1 rfl) ?_
  refine RefD.hv (at_ rfl) rfl (Hv.st Try.sizeOf3 rfl rfl rfl ?_)
  refine RefD.nil ?_
  refine RefE.next ?_
  refine RefC.seq ?_
  refine RefC.region ?_
  refine RefL.pure rfl rfl (RanP.move rfl) ?_
  refine RefL.li rfl rfl (Lt.nn rfl fun x8 => ?_)
  refine RefL.pure rfl rfl (RanP.fieldAddr fa_99_2 rfl) ?_
  refine RefL.li rfl rfl (Lt.ldI Try.isAgg3 rfl fun x9 => ?_)
  refine RefL.pure rfl rfl (RanP.move rfl) ?_
  refine RefL.pure rfl rfl (RanP.lenSl rfl Try.underlying36 rfl) ?_
  refine RefL.pure rfl rfl (RanP.sub rfl rfl) ?_
  refine RefL.li rfl rfl (Lt.nn rfl fun x10 => ?_)
  refine RefL.pure rfl rfl (RanP.fieldAddr fa_99_2 rfl) ?_
  refine RefL.hv rfl rfl (Hv.st Try.sizeOf3 rfl rfl rfl ?_)
  refine RefL.nil ?_
  refine RefE.next ?_
  refine RefC.seq ?_
  refine RefC.region ?_
  refine RefL.pure rfl rfl (RanP.move rfl) ?_
  refine RefL.pure rfl rfl (RanP.assign rfl) ?_
  refine RefL.nil ?_
  refine RefE.next ?_
  refine RefC.ret ?_
  refine RefE.retV rfl ?_
  refine RefV.tmp rfl ?_
  exact RefV.nil rfl

def leg_Leg_Take (K : Nat) (a0 : Option Addr) (a1 : Int) : G (Sl) :=
  nn a0 fun x1 =>
  ldP ((x1.add 14).add 0) fun x2 =>
  bnd (ring_Ring_Take K x2 a1) fun x3 =>
  bnd (leg_Leg_move K a0) fun x4 =>
  ret x3
set_option maxRecDepth 100000 in
theorem leg_Leg_Take_ref (K : Nat) (a0 : Option Addr) (a1 : Int) : Does Try.prog 21 [.pointer a0, .int .i64 a1] (leg_Leg_Take K a0 a1) (fun r => .slice r.a r.n r.c) := by
  refine Does.of Try.func21 rfl rfl rfl ?_
  unfold leg_Leg_Take
  refine RefC.seq ?_
  refine RefC.region ?_
  refine RefL.pure rfl rfl (RanP.assign rfl) ?_
  refine RefL.nil ?_
  refine RefE.next ?_
  refine RefC.seq ?_
  refine RefC.region ?_
  refine RefL.pure rfl rfl (RanP.move rfl) ?_
  refine RefL.li rfl rfl (Lt.nn rfl fun x1 => ?_)
  refine RefL.pure rfl rfl (RanP.fieldAddr fa_71_3 rfl) ?_
  refine RefL.pure rfl rfl (RanP.fieldAddr fa_69_0 rfl) ?_
  refine RefL.li rfl rfl (Lt.ldP Try.isAgg67 rfl fun x2 => ?_)
  refine RefL.pure rfl rfl (RanP.move rfl) ?_
  refine RefL.hv rfl rfl (Hv.call (ring_Ring_Take_ref K x2 a1) Try.call37 rfl rfl rfl fun x3 => ?_)
  refine RefL.pure rfl rfl (RanP.assign rfl) ?_
  refine RefL.nil ?_
  refine RefE.next ?_
  refine RefC.seq ?_
  refine RefC.region ?_
  refine RefL.pure rfl rfl (RanP.move rfl) ?_
  refine RefL.hv rfl rfl (Hv.call (leg_Leg_move_ref K a0) Try.call35 rfl rfl rfl fun x4 => ?_)
  refine RefL.nil ?_
  refine RefE.next ?_
  refine RefC.seq ?_
  refine RefC.region ?_
  refine RefL.pure rfl rfl (RanP.move rfl) ?_
  refine RefL.pure rfl rfl (RanP.assign rfl) ?_
  refine RefL.nil ?_
  refine RefE.next ?_
  refine RefC.ret ?_
  refine RefE.retV rfl ?_
  refine RefV.tmp rfl ?_
  exact RefV.nil rfl

def leg_Leg_Wrong (K : Nat) (a0 : Option Addr) : G (Int) :=
  nn a0 fun x1 =>
  ldI .i64 (x1.add 22) fun x2 =>
  ret x2
set_option maxRecDepth 100000 in
theorem leg_Leg_Wrong_ref (K : Nat) (a0 : Option Addr) : Does Try.prog 14 [.pointer a0] (leg_Leg_Wrong K a0) (fun r => .int .i64 r) := by
  refine Does.of Try.func14 rfl rfl rfl ?_
  unfold leg_Leg_Wrong
  refine RefC.seq ?_
  refine RefC.region ?_
  refine RefL.pure rfl rfl (RanP.assign rfl) ?_
  refine RefL.nil ?_
  refine RefE.next ?_
  refine RefC.seq ?_
  refine RefC.region ?_
  refine RefL.pure rfl rfl (RanP.move rfl) ?_
  refine RefL.li rfl rfl (Lt.nn rfl fun x1 => ?_)
  refine RefL.pure rfl rfl (RanP.fieldAddr fa_71_10 rfl) ?_
  refine RefL.li rfl rfl (Lt.ldI Try.isAgg28 rfl fun x2 => ?_)
  refine RefL.pure rfl rfl (RanP.assign rfl) ?_
  refine RefL.nil ?_
  refine RefE.next ?_
  refine RefC.ret ?_
  refine RefE.retV rfl ?_
  refine RefV.tmp rfl ?_
  exact RefV.nil rfl

def leg_Leg_Sent (K : Nat) (a0 : Option Addr) : G (Bool) :=
  nn a0 fun x1 =>
  ldB (x1.add 20) fun x2 =>
  ret x2
set_option maxRecDepth 100000 in
theorem leg_Leg_Sent_ref (K : Nat) (a0 : Option Addr) : Does Try.prog 16 [.pointer a0] (leg_Leg_Sent K a0) (fun r => .bool r) := by
  refine Does.of Try.func16 rfl rfl rfl ?_
  unfold leg_Leg_Sent
  refine RefC.seq ?_
  refine RefC.region ?_
  refine RefL.pure rfl rfl (RanP.assign rfl) ?_
  refine RefL.nil ?_
  refine RefE.next ?_
  refine RefC.seq ?_
  refine RefC.region ?_
  refine RefL.pure rfl rfl (RanP.move rfl) ?_
  refine RefL.li rfl rfl (Lt.nn rfl fun x1 => ?_)
  refine RefL.pure rfl rfl (RanP.fieldAddr fa_71_8 rfl) ?_
  refine RefL.li rfl rfl (Lt.ldB Try.isAgg4 rfl fun x2 => ?_)
  refine RefL.pure rfl rfl (RanP.assign rfl) ?_
  refine RefL.nil ?_
  refine RefE.next ?_
  refine RefC.ret ?_
  refine RefE.retV rfl ?_
  refine RefV.tmp rfl ?_
  exact RefV.nil rfl

def leg_Leg_Got (K : Nat) (a0 : Option Addr) : G (Bool) :=
  nn a0 fun x1 =>
  ldB (x1.add 21) fun x2 =>
  ret x2
set_option maxRecDepth 100000 in
theorem leg_Leg_Got_ref (K : Nat) (a0 : Option Addr) : Does Try.prog 15 [.pointer a0] (leg_Leg_Got K a0) (fun r => .bool r) := by
  refine Does.of Try.func15 rfl rfl rfl ?_
  unfold leg_Leg_Got
  refine RefC.seq ?_
  refine RefC.region ?_
  refine RefL.pure rfl rfl (RanP.assign rfl) ?_
  refine RefL.nil ?_
  refine RefE.next ?_
  refine RefC.seq ?_
  refine RefC.region ?_
  refine RefL.pure rfl rfl (RanP.move rfl) ?_
  refine RefL.li rfl rfl (Lt.nn rfl fun x1 => ?_)
  refine RefL.pure rfl rfl (RanP.fieldAddr fa_71_9 rfl) ?_
  refine RefL.li rfl rfl (Lt.ldB Try.isAgg4 rfl fun x2 => ?_)
  refine RefL.pure rfl rfl (RanP.assign rfl) ?_
  refine RefL.nil ?_
  refine RefE.next ?_
  refine RefC.ret ?_
  refine RefE.retV rfl ?_
  refine RefV.tmp rfl ?_
  exact RefV.nil rfl

def ring_Ring_Len (K : Nat) (a0 : Option Addr) : G (Int) :=
  nn a0 fun x1 =>
  ldI .i64 (x1.add 2) fun x2 =>
  ret x2
set_option maxRecDepth 100000 in
theorem ring_Ring_Len_ref (K : Nat) (a0 : Option Addr) : Does Try.prog 41 [.pointer a0] (ring_Ring_Len K a0) (fun r => .int .i64 r) := by
  refine Does.of Try.func41 rfl rfl rfl ?_
  unfold ring_Ring_Len
  refine RefC.seq ?_
  refine RefC.region ?_
  refine RefL.pure rfl rfl (RanP.assign rfl) ?_
  refine RefL.nil ?_
  refine RefE.next ?_
  refine RefC.seq ?_
  refine RefC.region ?_
  refine RefL.pure rfl rfl (RanP.move rfl) ?_
  refine RefL.li rfl rfl (Lt.nn rfl fun x1 => ?_)
  refine RefL.pure rfl rfl (RanP.fieldAddr fa_99_2 rfl) ?_
  refine RefL.li rfl rfl (Lt.ldI Try.isAgg3 rfl fun x2 => ?_)
  refine RefL.pure rfl rfl (RanP.assign rfl) ?_
  refine RefL.nil ?_
  refine RefE.next ?_
  refine RefC.ret ?_
  refine RefE.retV rfl ?_
  refine RefV.tmp rfl ?_
  exact RefV.nil rfl

def leg_Leg_Quiet (K : Nat) (a0 : Option Addr) : G (Bool) :=
  nn a0 fun x1 =>
  ldP ((x1.add 14).add 0) fun x2 =>
  bnd (ring_Ring_Len K x2) fun x3 =>
  bnd (
    if (x3 == (0 : Int)) = true then
      nn a0 fun x5 =>
      ldSl ((x5.add 14).add 1) fun x6 =>
      ret ((x6.n : Int) == (0 : Int))
    else
      ret false) fun (x4 : Bool) =>
  bnd (
    if x4 = true then
      nn a0 fun x8 =>
      ldSl (x8.add 16) fun x9 =>
      ret ((x9.n : Int) == (0 : Int))
    else
      ret false) fun (x7 : Bool) =>
  bnd (
    if x7 = true then
      nn a0 fun x11 =>
      ldSl (x11.add 17) fun x12 =>
      ret ((x12.n : Int) == (0 : Int))
    else
      ret false) fun (x10 : Bool) =>
  ret x10
set_option maxRecDepth 100000 in
theorem leg_Leg_Quiet_ref (K : Nat) (a0 : Option Addr) : Does Try.prog 24 [.pointer a0] (leg_Leg_Quiet K a0) (fun r => .bool r) := by
  refine Does.of Try.func24 rfl rfl rfl ?_
  unfold leg_Leg_Quiet
  refine RefC.seq ?_
  refine RefC.region ?_
  refine RefL.pure rfl rfl (RanP.assign rfl) ?_
  refine RefL.nil ?_
  refine RefE.next ?_
  refine RefC.seq ?_
  refine RefC.region ?_
  refine RefL.pure rfl rfl (RanP.move rfl) ?_
  refine RefL.li rfl rfl (Lt.nn rfl fun x1 => ?_)
  refine RefL.pure rfl rfl (RanP.fieldAddr fa_71_3 rfl) ?_
  refine RefL.pure rfl rfl (RanP.fieldAddr fa_69_0 rfl) ?_
  refine RefL.li rfl rfl (Lt.ldP Try.isAgg67 rfl fun x2 => ?_)
  refine RefL.hv rfl rfl (Hv.call (ring_Ring_Len_ref K x2) Try.call41 rfl rfl rfl fun x3 => ?_)
  refine RefL.pure rfl rfl (RanP.eql rfl rfl) ?_
  refine RefL.pure rfl rfl (RanP.move rfl) ?_
  refine RefL.cut (enc := fun (x4 : Bool) => ([(18, .bool x4), (0, .pointer a0)] : Env)) 8 ?_ ?_
  · refine RefL.ite (s := 10) rfl ?_ ?_
    · refine RefL.pure rfl rfl (RanP.move rfl) ?_
      refine RefL.li rfl rfl (Lt.nn rfl fun x5 => ?_)
      refine RefL.pure rfl rfl (RanP.fieldAddr fa_71_3 rfl) ?_
      refine RefL.pure rfl rfl (RanP.fieldAddr fa_69_1 rfl) ?_
      refine RefL.li rfl rfl (Lt.ldSl Try.isAgg36 rfl fun x6 => ?_)
      refine RefL.pure rfl rfl (RanP.lenSl rfl Try.underlying36 rfl) ?_
      refine RefL.pure rfl rfl (RanP.eql rfl rfl) ?_
      refine RefL.pure rfl rfl (RanP.pickT rfl rfl) ?_
      refine RefL.nil ?_
      exact RefE.fin (s := ((x6.n : Int) == (0 : Int))) ⟨rfl, rfl, trivial⟩
    · refine RefL.skip rfl rfl ?_
      refine RefL.skip rfl rfl ?_
      refine RefL.skip rfl rfl ?_
      refine RefL.skip rfl rfl ?_
      refine RefL.skip rfl rfl ?_
      refine RefL.skip rfl rfl ?_
      refine RefL.skip rfl rfl ?_
      refine RefL.pure rfl rfl (RanP.pickF rfl rfl) ?_
      refine RefL.nil ?_
      exact RefE.fin (s := false) ⟨rfl, rfl, trivial⟩
  · intro x4
    refine RefL.pure rfl rfl (RanP.move rfl) ?_
    refine RefL.cut (enc := fun (x7 : Bool) => ([(26, .bool x7), (0, .pointer a0)] : Env)) 7 ?_ ?_
    · refine RefL.ite (s := 19) rfl ?_ ?_
      · refine RefL.pure rfl rfl (RanP.move rfl) ?_
        refine RefL.li rfl rfl (Lt.nn rfl fun x8 => ?_)
        refine RefL.pure rfl rfl (RanP.fieldAddr fa_71_4 rfl) ?_
        refine RefL.li rfl rfl (Lt.ldSl Try.isAgg54 rfl fun x9 => ?_)
        refine RefL.pure rfl rfl (RanP.lenSl rfl Try.underlying54 rfl) ?_
        refine RefL.pure rfl rfl (RanP.eql rfl rfl) ?_
        refine RefL.pure rfl rfl (RanP.pickT rfl rfl) ?_
        refine RefL.nil ?_
        exact RefE.fin (s := ((x9.n : Int) == (0 : Int))) ⟨rfl, rfl, trivial⟩
      · refine RefL.skip rfl rfl ?_
        refine RefL.skip rfl rfl ?_
        refine RefL.skip rfl rfl ?_
        refine RefL.skip rfl rfl ?_
        refine RefL.skip rfl rfl ?_
        refine RefL.skip rfl rfl ?_
        refine RefL.pure rfl rfl (RanP.pickF rfl rfl) ?_
        refine RefL.nil ?_
        exact RefE.fin (s := false) ⟨rfl, rfl, trivial⟩
    · intro x7
      refine RefL.pure rfl rfl (RanP.move rfl) ?_
      refine RefL.cut (enc := fun (x10 : Bool) => ([(34, .bool x10)] : Env)) 7 ?_ ?_
      · refine RefL.ite (s := 27) rfl ?_ ?_
        · refine RefL.pure rfl rfl (RanP.move rfl) ?_
          refine RefL.li rfl rfl (Lt.nn rfl fun x11 => ?_)
          refine RefL.pure rfl rfl (RanP.fieldAddr fa_71_5 rfl) ?_
          refine RefL.li rfl rfl (Lt.ldSl Try.isAgg54 rfl fun x12 => ?_)
          refine RefL.pure rfl rfl (RanP.lenSl rfl Try.underlying54 rfl) ?_
          refine RefL.pure rfl rfl (RanP.eql rfl rfl) ?_
          refine RefL.pure rfl rfl (RanP.pickT rfl rfl) ?_
          refine RefL.nil ?_
          exact RefE.fin (s := ((x12.n : Int) == (0 : Int))) ⟨rfl, trivial⟩
        · refine RefL.skip rfl rfl ?_
          refine RefL.skip rfl rfl ?_
          refine RefL.skip rfl rfl ?_
          refine RefL.skip rfl rfl ?_
          refine RefL.skip rfl rfl ?_
          refine RefL.skip rfl rfl ?_
          refine RefL.pure rfl rfl (RanP.pickF rfl rfl) ?_
          refine RefL.nil ?_
          exact RefE.fin (s := false) ⟨rfl, trivial⟩
      · intro x10
        refine RefL.pure rfl rfl (RanP.assign rfl) ?_
        refine RefL.nil ?_
        refine RefE.next ?_
        refine RefC.ret ?_
        refine RefE.retV rfl ?_
        refine RefV.tmp rfl ?_
        exact RefV.nil rfl

def stream_Stream_Part (K : Nat) (a0 : Option Addr) : G (Int) :=
  nn a0 fun x1 =>
  ldSl (x1.add 2) fun x2 =>
  lt (x2.n : Int) fun x3 =>
  ret x3
set_option maxRecDepth 100000 in
theorem stream_Stream_Part_ref (K : Nat) (a0 : Option Addr) : Does Try.prog 39 [.pointer a0] (stream_Stream_Part K a0) (fun r => .int .i64 r) := by
  refine Does.of Try.func39 rfl rfl rfl ?_
  unfold stream_Stream_Part
  refine RefC.seq ?_
  refine RefC.region ?_
  refine RefL.pure rfl rfl (RanP.assign rfl) ?_
  refine RefL.nil ?_
  refine RefE.next ?_
  refine RefC.seq ?_
  refine RefC.region ?_
  refine RefL.pure rfl rfl (RanP.move rfl) ?_
  refine RefL.li rfl rfl (Lt.nn rfl fun x1 => ?_)
  refine RefL.pure rfl rfl (RanP.fieldAddr fa_93_2 rfl) ?_
  refine RefL.li rfl rfl (Lt.ldSl Try.isAgg36 rfl fun x2 => ?_)
  refine RefL.pure rfl rfl (RanP.lenSl rfl Try.underlying36 rfl) ?_
  refine RefL.pure rfl rfl (RanP.assign rfl) ?_
  refine RefL.lt 2 (fun y => .int .i64 y) rfl fun x3 => ?_
  refine RefL.nil ?_
  refine RefE.next ?_
  refine RefC.ret ?_
  refine RefE.retV rfl ?_
  refine RefV.tmp rfl ?_
  exact RefV.nil rfl

def msg_Machine_Part (K : Nat) (a0 : Option Addr) : G (Int) :=
  nn a0 fun x1 =>
  ldSl (x1.add 2) fun x2 =>
  lt (x2.n : Int) fun x3 =>
  ret x3
set_option maxRecDepth 100000 in
theorem msg_Machine_Part_ref (K : Nat) (a0 : Option Addr) : Does Try.prog 40 [.pointer a0] (msg_Machine_Part K a0) (fun r => .int .i64 r) := by
  refine Does.of Try.func40 rfl rfl rfl ?_
  unfold msg_Machine_Part
  refine RefC.seq ?_
  refine RefC.region ?_
  refine RefL.pure rfl rfl (RanP.assign rfl) ?_
  refine RefL.nil ?_
  refine RefE.next ?_
  refine RefC.seq ?_
  refine RefC.region ?_
  refine RefL.pure rfl rfl (RanP.move rfl) ?_
  refine RefL.li rfl rfl (Lt.nn rfl fun x1 => ?_)
  refine RefL.pure rfl rfl (RanP.fieldAddr fa_97_2 rfl) ?_
  refine RefL.li rfl rfl (Lt.ldSl Try.isAgg36 rfl fun x2 => ?_)
  refine RefL.pure rfl rfl (RanP.lenSl rfl Try.underlying36 rfl) ?_
  refine RefL.pure rfl rfl (RanP.assign rfl) ?_
  refine RefL.lt 2 (fun y => .int .i64 y) rfl fun x3 => ?_
  refine RefL.nil ?_
  refine RefE.next ?_
  refine RefC.ret ?_
  refine RefE.retV rfl ?_
  refine RefV.tmp rfl ?_
  exact RefV.nil rfl

def leg_Leg_Kept (K : Nat) (a0 : Option Addr) : G (Int) :=
  drw <|
  nn a0 fun x1 =>
  ldP (x1.add 12) fun x2 =>
  nn a0 fun x3 =>
  wld fun w5 =>
  ldP (x3.add 13) fun x4 =>
  bnd (stream_Stream_Part K x2) fun x6 =>
  agr (like (x3.add 13) 1 w5) <|
  bnd (msg_Machine_Part K x4) fun x7 =>
  lt (IntKind.wrap .i64 (x6 + x7)) fun x8 =>
  ret x8
set_option maxRecDepth 100000 in
theorem leg_Leg_Kept_ref (K : Nat) (a0 : Option Addr) : Does Try.prog 23 [.pointer a0] (leg_Leg_Kept K a0) (fun r => .int .i64 r) := by
  refine Does.of Try.func23 rfl rfl rfl ?_
  unfold leg_Leg_Kept
  refine RefC.seq ?_
  refine RefC.region ?_
  refine RefL.pure rfl rfl (RanP.assign rfl) ?_
  refine RefL.nil ?_
  refine RefE.next ?_
  refine RefC.seq ?_
  refine RefC.draw mixed [0, 1, 3, 7, 15, 0, 32, 96, 224, 511, 1023, 2047] [.lp 0, .lp 1, .lp 2, .li 3, .lp 5, .lp 6, .lp 7, .li 8, .hv 4, .re 8, .hv 9, .lp 10, .lp 11] (by kernel_rfl) ?_
  refine RefD.pure (at_ rfl) rfl (RanP.move rfl) ?_
  refine RefD.any (at_ rfl) rfl (Lt.nn rfl fun x1 => ?_)
  refine RefD.pure (at_ rfl) rfl (RanP.fieldAddr fa_71_1 rfl) ?_
  refine RefD.li0 (at_ rfl) rfl (Lt.ldP Try.isAgg65 rfl fun x2 => ?_)
  refine RefD.pure (at_ rfl) rfl (RanP.move rfl) ?_
  refine RefD.any (at_ rfl) rfl (Lt.nn rfl fun x3 => ?_)
  refine RefD.pure (at_ rfl) rfl (RanP.fieldAddr fa_71_2 rfl) ?_
  refine RefD.li (at_ rfl) rfl fun w5 => (Lt.ldP Try.isAgg66 rfl fun x4 => ?_)
  refine RefD.hv (at_ rfl) rfl (Hv.call (stream_Stream_Part_ref K x2) Try.call39 rfl rfl rfl fun x6 => ?_)
  refine RefD.re rfl ?_
  refine RefD.hv (at_ rfl) rfl (Hv.call (msg_Machine_Part_ref K x4) Try.call40 rfl rfl rfl fun x7 => ?_)
  refine RefD.pure (at_ rfl) rfl (RanP.add rfl rfl) ?_
  refine RefD.pure (at_ rfl) rfl (RanP.assign rfl) ?_
  refine RefD.lt 2 (fun y => .int .i64 y) rfl fun x8 => ?_
  refine RefD.nil ?_
  refine RefE.next ?_
  refine RefC.ret ?_
  refine RefE.retV rfl ?_
  refine RefV.tmp rfl ?_
  exact RefV.nil rfl

def cut_Count (K : Nat) (a0 : Int) (a1 : Int) : G (Int) :=
  bnd (
    if (decide (a0 < (0 : Int))) = true then
      ret true
    else
      ret (decide ((1048576 : Int) < a0))) fun (x1 : Bool) =>
  bnd (
    if x1 = true then
      ret true
    else
      ret (decide (a1 < (1 : Int)))) fun (x2 : Bool) =>
  bnd (
    if x2 = true then
      ret true
    else
      ret (decide ((65536 : Int) < a1))) fun (x3 : Bool) =>
  if x3 = true then
    ret (0 : Int)
  else
    chk (a1 ≠ 0) <|
    lt (if (IntKind.wrap .i64 (Int.tdiv (IntKind.wrap .i64 ((IntKind.wrap .i64 (a0 + a1)) - (1 : Int))) a1)) < (1 : Int) then (1 : Int) else (IntKind.wrap .i64 (Int.tdiv (IntKind.wrap .i64 ((IntKind.wrap .i64 (a0 + a1)) - (1 : Int))) a1))) fun x5 =>
    ret x5
set_option maxRecDepth 100000 in
theorem cut_Count_ref (K : Nat) (a0 : Int) (a1 : Int) : Does Try.prog 53 [.int .i64 a0, .int .i64 a1] (cut_Count K a0 a1) (fun r => .int .i64 r) := by
  refine Does.of Try.func53 rfl rfl rfl ?_
  unfold cut_Count
  refine RefC.seq ?_
  refine RefC.region ?_
  refine RefL.pure rfl rfl (RanP.assign rfl) ?_
  refine RefL.nil ?_
  refine RefE.next ?_
  refine RefC.seq ?_
  refine RefC.seq ?_
  refine RefC.region ?_
  refine RefL.pure rfl rfl (RanP.move rfl) ?_
  refine RefL.pure rfl rfl (RanP.lss rfl rfl) ?_
  refine RefL.pure rfl rfl (RanP.move rfl) ?_
  refine RefL.cut (enc := fun (x1 : Bool) => ([(10, .bool x1), (0, .int .i64 a0), (1, .int .i64 a1)] : Env)) 3 ?_ ?_
  · refine RefL.ite (s := 7) rfl ?_ ?_
    · refine RefL.skip rfl rfl ?_
      refine RefL.skip rfl rfl ?_
      refine RefL.pure rfl rfl (RanP.pickT rfl rfl) ?_
      refine RefL.nil ?_
      exact RefE.fin (s := true) ⟨rfl, rfl, rfl, trivial⟩
    · refine RefL.pure rfl rfl (RanP.move rfl) ?_
      refine RefL.pure rfl rfl (RanP.gtr rfl rfl) ?_
      refine RefL.pure rfl rfl (RanP.pickF rfl rfl) ?_
      refine RefL.nil ?_
      exact RefE.fin (s := (decide ((1048576 : Int) < a0))) ⟨rfl, rfl, rfl, trivial⟩
  · intro x1
    refine RefL.pure rfl rfl (RanP.move rfl) ?_
    refine RefL.cut (enc := fun (x2 : Bool) => ([(14, .bool x2), (0, .int .i64 a0), (1, .int .i64 a1)] : Env)) 3 ?_ ?_
    · refine RefL.ite (s := 11) rfl ?_ ?_
      · refine RefL.skip rfl rfl ?_
        refine RefL.skip rfl rfl ?_
        refine RefL.pure rfl rfl (RanP.pickT rfl rfl) ?_
        refine RefL.nil ?_
        exact RefE.fin (s := true) ⟨rfl, rfl, rfl, trivial⟩
      · refine RefL.pure rfl rfl (RanP.move rfl) ?_
        refine RefL.pure rfl rfl (RanP.lss rfl rfl) ?_
        refine RefL.pure rfl rfl (RanP.pickF rfl rfl) ?_
        refine RefL.nil ?_
        exact RefE.fin (s := (decide (a1 < (1 : Int)))) ⟨rfl, rfl, rfl, trivial⟩
    · intro x2
      refine RefL.pure rfl rfl (RanP.move rfl) ?_
      refine RefL.cut (enc := fun (x3 : Bool) => ([(18, .bool x3), (0, .int .i64 a0), (1, .int .i64 a1)] : Env)) 3 ?_ ?_
      · refine RefL.ite (s := 15) rfl ?_ ?_
        · refine RefL.skip rfl rfl ?_
          refine RefL.skip rfl rfl ?_
          refine RefL.pure rfl rfl (RanP.pickT rfl rfl) ?_
          refine RefL.nil ?_
          exact RefE.fin (s := true) ⟨rfl, rfl, rfl, trivial⟩
        · refine RefL.pure rfl rfl (RanP.move rfl) ?_
          refine RefL.pure rfl rfl (RanP.gtr rfl rfl) ?_
          refine RefL.pure rfl rfl (RanP.pickF rfl rfl) ?_
          refine RefL.nil ?_
          exact RefE.fin (s := (decide ((65536 : Int) < a1))) ⟨rfl, rfl, rfl, trivial⟩
      · intro x3
        refine RefL.nil ?_
        refine RefE.next ?_
        refine RefC.cond rfl ?_ ?_
        · refine RefC.seq ?_
          refine RefC.region ?_
          refine RefL.pure rfl rfl (RanP.assign rfl) ?_
          refine RefL.nil ?_
          refine RefE.next ?_
          refine RefC.ret ?_
          refine RefE.thenRet ?_
          refine RefE.retV rfl ?_
          refine RefV.tmp rfl ?_
          exact RefV.nil rfl
        · refine RefC.skip ?_
          refine RefE.next ?_
          refine RefC.seq ?_
          refine RefC.region ?_
          refine RefL.pure rfl rfl (RanP.move rfl) ?_
          refine RefL.pure rfl rfl (RanP.move rfl) ?_
          refine RefL.pure rfl rfl (RanP.add rfl rfl) ?_
          refine RefL.pure rfl rfl (RanP.sub rfl rfl) ?_
          refine RefL.pure rfl rfl (RanP.move rfl) ?_
          refine RefL.chk fun h4 => ?_
          refine RefL.pure rfl rfl (RanP.quo h4 rfl rfl) ?_
          refine RefL.pure rfl rfl (RanP.max2 rfl) ?_
          refine RefL.pure rfl rfl (RanP.assign rfl) ?_
          refine RefL.lt 4 (fun y => .int .i64 y) rfl fun x5 => ?_
          refine RefL.nil ?_
          refine RefE.next ?_
          refine RefC.ret ?_
          refine RefE.retV rfl ?_
          refine RefV.tmp rfl ?_
          exact RefV.nil rfl

def cut_Frames_l0 (K : Nat) (x1 : Int) (a1 : ByteArray) (a2 : Int) (again : (Int × Sl × Int) → G (Sl)) (s17 : Int × Sl × Int) : G (Sl) :=
  if (decide (s17.2.2 < x1)) = true then
    slStr a1 (some (IntKind.wrap .i64 (s17.2.2 * a2))) (some (if (a1.size : Int) < (IntKind.wrap .i64 ((IntKind.wrap .i64 (s17.2.2 + (1 : Int))) * a2)) then (a1.size : Int) else (IntKind.wrap .i64 ((IntKind.wrap .i64 (s17.2.2 + (1 : Int))) * a2)))) fun x18 =>
    new (Agg.cells (Tapi_Frame.mk (s17.2.2 == (IntKind.wrap .i64 (x1 - (1 : Int)))) s17.1 false (0 : Int) (0 : Int) (0 : Int) (0 : Int) x18)) 59 fun x19 =>
    appS 59 8 40 [.bool false, .int .i64 (0 : Int), .bool false, .int .u8 (0 : Int), .int .u8 (0 : Int), .int .u8 (0 : Int), .int .u8 (0 : Int), .string (ByteArray.mk #[])] s17.2.1 (Sl.mk (some x19) 1 1) fun x20 =>
    again ((0 : Int), x20, (IntKind.wrap .i64 (s17.2.2 + (1 : Int))))
  else
    ret (s17.2.1)
def cut_Frames (K : Nat) (a0 : Int) (a1 : ByteArray) (a2 : Int) : G (Sl × Int) :=
  bnd (cut_Count K (a1.size : Int) a2) fun x1 =>
  bnd (
    if (a0 != (1 : Int)) = true then
      ret (a0 != (2 : Int))
    else
      ret false) fun (x2 : Bool) =>
  bnd (
    if x2 = true then
      ret true
    else
      ret (x1 == (0 : Int))) fun (x3 : Bool) =>
  if x3 = true then
    ret (Sl.nil, (130 : Int))
  else
    mk 59 8 40 [.bool false, .int .i64 (0 : Int), .bool false, .int .u8 (0 : Int), .int .u8 (0 : Int), .int .u8 (0 : Int), .int .u8 (0 : Int), .string (ByteArray.mk #[])] (0 : Int) x1 fun x4 =>
    bnd (
      loopG (cut_Frames_l0 K x1 a1 a2) K (a0, x4, (0 : Int))) fun (s21 : Sl) =>
    ret (s21, (0 : Int))
set_option maxRecDepth 100000 in
theorem cut_Frames_ref (K : Nat) (a0 : Int) (a1 : ByteArray) (a2 : Int) : Does Try.prog 34 [.int .i64 a0, .string a1, .int .i64 a2] (cut_Frames K a0 a1 a2) (fun r => .tuple #[.slice r.1.a r.1.n r.1.c, .int .i64 r.2]) := by
  refine Does.of Try.func34 rfl rfl rfl ?_
  unfold cut_Frames
  refine RefC.seq ?_
  refine RefC.region ?_
  refine RefL.pure rfl rfl (RanP.assign rfl) ?_
  refine RefL.pure rfl rfl (RanP.assign rfl) ?_
  refine RefL.nil ?_
  refine RefE.next ?_
  refine RefC.seq ?_
  refine RefC.region ?_
  refine RefL.pure rfl rfl (RanP.move rfl) ?_
  refine RefL.pure rfl rfl (RanP.lenS rfl Try.underlying9 rfl) ?_
  refine RefL.pure rfl rfl (RanP.move rfl) ?_
  refine RefL.hv rfl rfl (Hv.call (cut_Count_ref K (a1.size : Int) a2) Try.call53 rfl rfl rfl fun x1 => ?_)
  refine RefL.pure rfl rfl (RanP.assign rfl) ?_
  refine RefL.nil ?_
  refine RefE.next ?_
  refine RefC.seq ?_
  refine RefC.seq ?_
  refine RefC.region ?_
  refine RefL.pure rfl rfl (RanP.move rfl) ?_
  refine RefL.pure rfl rfl (RanP.neq rfl rfl) ?_
  refine RefL.pure rfl rfl (RanP.move rfl) ?_
  refine RefL.cut (enc := fun (x2 : Bool) => ([(20, .bool x2), (0, .int .i64 a0), (1, .string a1), (2, .int .i64 a2), (8, .int .i64 x1)] : Env)) 3 ?_ ?_
  · refine RefL.ite (s := 17) rfl ?_ ?_
    · refine RefL.pure rfl rfl (RanP.move rfl) ?_
      refine RefL.pure rfl rfl (RanP.neq rfl rfl) ?_
      refine RefL.pure rfl rfl (RanP.pickT rfl rfl) ?_
      refine RefL.nil ?_
      exact RefE.fin (s := (a0 != (2 : Int))) ⟨rfl, rfl, rfl, rfl, rfl, trivial⟩
    · refine RefL.skip rfl rfl ?_
      refine RefL.skip rfl rfl ?_
      refine RefL.pure rfl rfl (RanP.pickF rfl rfl) ?_
      refine RefL.nil ?_
      exact RefE.fin (s := false) ⟨rfl, rfl, rfl, rfl, rfl, trivial⟩
  · intro x2
    refine RefL.pure rfl rfl (RanP.move rfl) ?_
    refine RefL.cut (enc := fun (x3 : Bool) => ([(24, .bool x3), (0, .int .i64 a0), (1, .string a1), (2, .int .i64 a2), (8, .int .i64 x1)] : Env)) 3 ?_ ?_
    · refine RefL.ite (s := 21) rfl ?_ ?_
      · refine RefL.skip rfl rfl ?_
        refine RefL.skip rfl rfl ?_
        refine RefL.pure rfl rfl (RanP.pickT rfl rfl) ?_
        refine RefL.nil ?_
        exact RefE.fin (s := true) ⟨rfl, rfl, rfl, rfl, rfl, trivial⟩
      · refine RefL.pure rfl rfl (RanP.move rfl) ?_
        refine RefL.pure rfl rfl (RanP.eql rfl rfl) ?_
        refine RefL.pure rfl rfl (RanP.pickF rfl rfl) ?_
        refine RefL.nil ?_
        exact RefE.fin (s := (x1 == (0 : Int))) ⟨rfl, rfl, rfl, rfl, rfl, trivial⟩
    · intro x3
      refine RefL.nil ?_
      refine RefE.next ?_
      refine RefC.cond rfl ?_ ?_
      · refine RefC.seq ?_
        refine RefC.region ?_
        refine RefL.pure rfl rfl (RanP.assign rfl) ?_
        refine RefL.pure rfl rfl (RanP.assign rfl) ?_
        refine RefL.nil ?_
        refine RefE.next ?_
        refine RefC.ret ?_
        refine RefE.thenRet ?_
        refine RefE.retV rfl ?_
        refine RefV.tmp rfl ?_
        refine RefV.tmp rfl ?_
        exact RefV.nil rfl
      · refine RefC.skip ?_
        refine RefE.next ?_
        refine RefC.seq ?_
        refine RefC.region ?_
        refine RefL.pure rfl rfl (RanP.move rfl) ?_
        refine RefL.hv rfl rfl (Hv.mk (i := Try.t59) Try.underlying54 rfl rfl rfl rfl rfl rfl fun x4 => ?_)
        refine RefL.pure rfl rfl (RanP.assign rfl) ?_
        refine RefL.nil ?_
        refine RefE.next ?_
        refine RefC.seq ?_
        refine RefC.seq ?_
        refine RefC.region ?_
        refine RefL.pure rfl rfl (RanP.move rfl) ?_
        refine RefL.pure rfl rfl (RanP.move rfl) ?_
        refine RefL.nil ?_
        refine RefE.next ?_
        refine RefC.cut (enc := fun (s21 : Sl) => ([(9, .slice s21.a s21.n s21.c)] : Env)) ?_ ?_
        · refine RefC.block ?_
          refine RefC.loopW (enc := fun (s17 : Int × Sl × Int) => ([(0, .int .i64 s17.1), (9, .slice s17.2.1.a s17.2.1.n s17.2.1.c), (28, .int .i64 s17.2.2), (1, .string a1), (2, .int .i64 a2), (8, .int .i64 x1), (27, .int .i64 x1)] : Env)) ⟨rfl, rfl, rfl, rfl, rfl, rfl, rfl, trivial⟩ ?_ _
          intro again k ih s17
          unfold cut_Frames_l0
          refine RefC.seq ?_
          refine RefC.region ?_
          refine RefL.pure rfl rfl (RanP.lss rfl rfl) ?_
          refine RefL.nil ?_
          refine RefE.next ?_
          refine RefC.seq ?_
          refine RefC.cond rfl ?_ ?_
          · refine RefC.skip ?_
            refine RefE.next ?_
            refine RefC.seq ?_
            refine RefC.block ?_
            refine RefC.seq ?_
            refine RefC.region ?_
            refine RefL.pure rfl rfl (RanP.move rfl) ?_
            refine RefL.pure rfl rfl (RanP.assign rfl) ?_
            refine RefL.nil ?_
            refine RefE.next ?_
            refine RefC.seq ?_
            refine RefC.region ?_
            refine RefL.pure rfl rfl (RanP.move rfl) ?_
            refine RefL.pure rfl rfl (RanP.move rfl) ?_
            refine RefL.pure rfl rfl (RanP.move rfl) ?_
            refine RefL.pure rfl rfl (RanP.move rfl) ?_
            refine RefL.pure rfl rfl (RanP.sub rfl rfl) ?_
            refine RefL.pure rfl rfl (RanP.eql rfl rfl) ?_
            refine RefL.pure rfl rfl (RanP.move rfl) ?_
            refine RefL.pure rfl rfl (RanP.move rfl) ?_
            refine RefL.pure rfl rfl (RanP.move rfl) ?_
            refine RefL.pure rfl rfl (RanP.mul rfl rfl) ?_
            refine RefL.pure rfl rfl (RanP.move rfl) ?_
            refine RefL.pure rfl rfl (RanP.add rfl rfl) ?_
            refine RefL.pure rfl rfl (RanP.move rfl) ?_
            refine RefL.pure rfl rfl (RanP.mul rfl rfl) ?_
            refine RefL.pure rfl rfl (RanP.move rfl) ?_
            refine RefL.pure rfl rfl (RanP.lenS rfl Try.underlying9 rfl) ?_
            refine RefL.pure rfl rfl (RanP.min2 rfl) ?_
            refine RefL.li rfl rfl (Lt.slStr (kl := .i64) (kh := .i64) Try.underlying9 rfl rfl rfl fun x18 => ?_)
            refine RefL.pure rfl rfl (RanP.build rfl (v := .agg (Agg.cells (Tapi_Frame.mk (s17.2.2 == (IntKind.wrap .i64 (x1 - (1 : Int)))) s17.1 false (0 : Int) (0 : Int) (0 : Int) (0 : Int) x18)).toArray) (fun _ => by kernel_rfl)) ?_
            refine RefL.hv rfl rfl (Hv.buildSlice rfl (cs := (Agg.cells (Tapi_Frame.mk (s17.2.2 == (IntKind.wrap .i64 (x1 - (1 : Int)))) s17.1 false (0 : Int) (0 : Int) (0 : Int) (0 : Int) x18))) (e := 59) (fun _ => by kernel_rfl) fun x19 => ?_)
            refine RefL.hv rfl rfl (Hv.appS (i := Try.t59) rfl Try.underlying54 Try.underlying54 rfl rfl rfl rfl fun x20 => ?_)
            refine RefL.pure rfl rfl (RanP.assign rfl) ?_
            refine RefL.nil ?_
            refine RefE.next ?_
            refine RefC.region ?_
            refine RefL.pure rfl rfl (RanP.assign rfl) ?_
            refine RefL.nil ?_
            refine RefE.blockNormal ?_
            refine RefE.next ?_
            refine RefC.region ?_
            refine RefL.pure rfl rfl (RanP.add rfl rfl) ?_
            refine RefL.pure rfl rfl (RanP.move rfl) ?_
            refine RefL.nil ?_
            exact RefE.again (ih ((0 : Int), x20, (IntKind.wrap .i64 (s17.2.2 + (1 : Int))))) ⟨rfl, rfl, rfl, rfl, rfl, rfl, rfl, trivial⟩
          · refine RefC.exit ?_
            refine RefE.thenExit ?_
            refine RefE.roundExit ?_
            refine RefE.blockExit ?_
            exact RefE.fin (s := (s17.2.1)) ⟨rfl, trivial⟩
        · intro s21
          refine RefE.next ?_
          refine RefC.seq ?_
          refine RefC.region ?_
          refine RefL.pure rfl rfl (RanP.move rfl) ?_
          refine RefL.pure rfl rfl (RanP.assign rfl) ?_
          refine RefL.pure rfl rfl (RanP.assign rfl) ?_
          refine RefL.nil ?_
          refine RefE.next ?_
          refine RefC.ret ?_
          refine RefE.retV rfl ?_
          refine RefV.tmp rfl ?_
          refine RefV.tmp rfl ?_
          exact RefV.nil rfl

def leg_Leg_Send (K : Nat) (a0 : Option Addr) (a1 : Tapi_Event) : G (Bool) :=
  new (Agg.cells a1) 47 fun x1 =>
  bnd (
    drw <|
    bnd (leg_Leg_Free K a0) fun x11 =>
    if (!x11) = true then
      ret (true)
    else
      ldI .i64 (x1.add 0) fun x12 =>
      if (x12 != (1 : Int)) = true then
        ldI .i64 (x1.add 0) fun x13 =>
        if (x13 != (2 : Int)) = true then
          ret (true)
        else
          ldS (x1.add 2) fun x14 =>
          nn a0 fun x15 =>
          ldI .i64 ((x15.add 0).add 3) fun x16 =>
          ret ((decide (x16 < (x14.size : Int))))
      else
        ldS (x1.add 2) fun x17 =>
        nn a0 fun x18 =>
        ldI .i64 ((x18.add 0).add 3) fun x19 =>
        ret ((decide (x19 < (x17.size : Int))))) fun (s20 : Bool) =>
  if s20 = true then
    ret false
  else
    drw <|
    ldI .i64 (x1.add 0) fun x21 =>
    ldS (x1.add 2) fun x22 =>
    nn a0 fun x23 =>
    ldI .i64 ((x23.add 0).add 4) fun x24 =>
    bnd (cut_Frames K x21 x22 x24) fun x25 =>
    nn a0 fun x26 =>
    st (x26.add 17) (.slice x25.1.a x25.1.n x25.1.c) <|
    bnd (leg_Leg_move K a0) fun x27 =>
    ret true
set_option maxRecDepth 100000 in
theorem leg_Leg_Send_ref (K : Nat) (a0 : Option Addr) (a1 : Tapi_Event) : Does Try.prog 18 [.pointer a0, .agg (Agg.cells a1).toArray] (leg_Leg_Send K a0 a1) (fun r => .bool r) := by
  refine Does.of Try.func18 rfl rfl rfl ?_
  unfold leg_Leg_Send
  refine RefC.seq ?_
  refine RefC.region ?_
  refine RefL.hv rfl rfl (Hv.box rfl rfl fun x1 => ?_)
  refine RefL.pure rfl rfl (RanP.assign rfl) ?_
  refine RefL.nil ?_
  refine RefE.next ?_
  refine RefC.seq ?_
  refine RefC.seq ?_
  refine RefC.cut (enc := fun (s20 : Bool) => ([(28, .bool s20), (0, .pointer a0), (3, .pointer (some x1))] : Env)) ?_ ?_
  · refine RefC.draw mixed [0, 1, 3, 7, 15, 31, 63, 127, 255, 511, 1023, 2047, 4095, 8191, 16383, 32767, 65535, 16383, 147455, 409599, 933887, 1982463, 4194303, 8388607] [.lp 0, .hv 1, .lp 2, .lp 3, .lp 4, .li 5, .lp 6, .lp 7, .lp 8, .li 9, .lp 10, .lp 11, .lp 12, .lp 13, .lp 14, .li 15, .lp 16, .lp 17, .lp 18, .lp 19, .lp 20, .li 21, .lp 22, .lp 23] (by kernel_rfl) ?_
    refine RefD.pure (at_ rfl) rfl (RanP.move rfl) ?_
    refine RefD.hv (at_ rfl) rfl (Hv.call (leg_Leg_Free_ref K a0) Try.call26 rfl rfl rfl fun x11 => ?_)
    refine RefD.pure (at_ rfl) rfl (RanP.not rfl) ?_
    refine RefD.pure (at_ rfl) rfl (RanP.move rfl) ?_
    refine RefD.ite (s := 8) rfl ?_ ?_
    · refine RefD.skipP (at_ rfl) rfl ?_
      refine RefD.skipI (at_ rfl) rfl ?_
      refine RefD.skipP (at_ rfl) rfl ?_
      refine RefD.skipP (at_ rfl) rfl ?_
      refine RefD.skipP (at_ rfl) rfl ?_
      refine RefD.skipI (at_ rfl) rfl ?_
      refine RefD.skipP (at_ rfl) rfl ?_
      refine RefD.skipP (at_ rfl) rfl ?_
      refine RefD.pure (at_ rfl) rfl (RanP.pickT rfl rfl) ?_
      refine RefD.pure (at_ rfl) rfl (RanP.move rfl) ?_
      refine RefD.skipP (at_ rfl) rfl ?_
      refine RefD.skipI (at_ rfl) rfl ?_
      refine RefD.skipP (at_ rfl) rfl ?_
      refine RefD.skipP (at_ rfl) rfl ?_
      refine RefD.skipP (at_ rfl) rfl ?_
      refine RefD.skipP (at_ rfl) rfl ?_
      refine RefD.skipP (at_ rfl) rfl ?_
      refine RefD.skipI (at_ rfl) rfl ?_
      refine RefD.skipP (at_ rfl) rfl ?_
      refine RefD.pure (at_ rfl) rfl (RanP.pickT rfl rfl) ?_
      refine RefD.nil ?_
      exact RefE.fin (s := (true)) ⟨rfl, rfl, rfl, trivial⟩
    · refine RefD.pure (at_ rfl) rfl (RanP.fieldAddr fa_47_0 rfl) ?_
      refine RefD.li0 (at_ rfl) rfl (Lt.ldI Try.isAgg3 rfl fun x12 => ?_)
      refine RefD.pure (at_ rfl) rfl (RanP.neq rfl rfl) ?_
      refine RefD.pure (at_ rfl) rfl (RanP.move rfl) ?_
      refine RefD.ite (s := 12) rfl ?_ ?_
      · refine RefD.pure (at_ rfl) rfl (RanP.fieldAddr fa_47_0 rfl) ?_
        refine RefD.li0 (at_ rfl) rfl (Lt.ldI Try.isAgg3 rfl fun x13 => ?_)
        refine RefD.pure (at_ rfl) rfl (RanP.neq rfl rfl) ?_
        refine RefD.pure (at_ rfl) rfl (RanP.pickT rfl rfl) ?_
        refine RefD.pure (at_ rfl) rfl (RanP.pickF rfl rfl) ?_
        refine RefD.pure (at_ rfl) rfl (RanP.move rfl) ?_
        refine RefD.ite (s := 18) rfl ?_ ?_
        · refine RefD.skipP (at_ rfl) rfl ?_
          refine RefD.skipI (at_ rfl) rfl ?_
          refine RefD.skipP (at_ rfl) rfl ?_
          refine RefD.skipP (at_ rfl) rfl ?_
          refine RefD.skipP (at_ rfl) rfl ?_
          refine RefD.skipP (at_ rfl) rfl ?_
          refine RefD.skipP (at_ rfl) rfl ?_
          refine RefD.skipI (at_ rfl) rfl ?_
          refine RefD.skipP (at_ rfl) rfl ?_
          refine RefD.pure (at_ rfl) rfl (RanP.pickT rfl rfl) ?_
          refine RefD.nil ?_
          exact RefE.fin (s := (true)) ⟨rfl, rfl, rfl, trivial⟩
        · refine RefD.pure (at_ rfl) rfl (RanP.fieldAddr fa_47_2 rfl) ?_
          refine RefD.li0 (at_ rfl) rfl (Lt.ldS Try.isAgg9 rfl fun x14 => ?_)
          refine RefD.pure (at_ rfl) rfl (RanP.lenS rfl Try.underlying9 rfl) ?_
          refine RefD.pure (at_ rfl) rfl (RanP.move rfl) ?_
          refine RefD.any (at_ rfl) rfl (Lt.nn rfl fun x15 => ?_)
          refine RefD.pure (at_ rfl) rfl (RanP.fieldAddr fa_71_0 rfl) ?_
          refine RefD.pure (at_ rfl) rfl (RanP.fieldAddr fa_25_3 rfl) ?_
          refine RefD.li0 (at_ rfl) rfl (Lt.ldI Try.isAgg3 rfl fun x16 => ?_)
          refine RefD.pure (at_ rfl) rfl (RanP.gtr rfl rfl) ?_
          refine RefD.pure (at_ rfl) rfl (RanP.pickF rfl rfl) ?_
          refine RefD.nil ?_
          exact RefE.fin (s := ((decide (x16 < (x14.size : Int))))) ⟨rfl, rfl, rfl, trivial⟩
      · refine RefD.skipP (at_ rfl) rfl ?_
        refine RefD.skipI (at_ rfl) rfl ?_
        refine RefD.skipP (at_ rfl) rfl ?_
        refine RefD.pure (at_ rfl) rfl (RanP.pickF rfl rfl) ?_
        refine RefD.pure (at_ rfl) rfl (RanP.pickF rfl rfl) ?_
        refine RefD.pure (at_ rfl) rfl (RanP.move rfl) ?_
        refine RefD.pure (at_ rfl) rfl (RanP.fieldAddr fa_47_2 rfl) ?_
        refine RefD.li0 (at_ rfl) rfl (Lt.ldS Try.isAgg9 rfl fun x17 => ?_)
        refine RefD.pure (at_ rfl) rfl (RanP.lenS rfl Try.underlying9 rfl) ?_
        refine RefD.pure (at_ rfl) rfl (RanP.move rfl) ?_
        refine RefD.any (at_ rfl) rfl (Lt.nn rfl fun x18 => ?_)
        refine RefD.pure (at_ rfl) rfl (RanP.fieldAddr fa_71_0 rfl) ?_
        refine RefD.pure (at_ rfl) rfl (RanP.fieldAddr fa_25_3 rfl) ?_
        refine RefD.li0 (at_ rfl) rfl (Lt.ldI Try.isAgg3 rfl fun x19 => ?_)
        refine RefD.pure (at_ rfl) rfl (RanP.gtr rfl rfl) ?_
        refine RefD.pure (at_ rfl) rfl (RanP.pickF rfl rfl) ?_
        refine RefD.nil ?_
        exact RefE.fin (s := ((decide (x19 < (x17.size : Int))))) ⟨rfl, rfl, rfl, trivial⟩
  · intro s20
    refine RefE.next ?_
    refine RefC.cond rfl ?_ ?_
    · refine RefC.seq ?_
      refine RefC.region ?_
      refine RefL.pure rfl rfl (RanP.assign rfl) ?_
      refine RefL.nil ?_
      refine RefE.next ?_
      refine RefC.ret ?_
      refine RefE.thenRet ?_
      refine RefE.retV rfl ?_
      refine RefV.tmp rfl ?_
      exact RefV.nil rfl
    · refine RefC.skip ?_
      refine RefE.next ?_
      refine RefC.seq ?_
      refine RefC.draw mixed [0, 0, 2, 0, 8, 0, 32, 96, 224, 480, 1022, 2046, 4094, 4094, 8191, 24575, 57343] [.lp 0, .lp 1, .li 2, .lp 3, .li 4, .lp 5, .lp 6, .lp 7, .lp 8, .li 9, .hv 10, .lp 11, .lp 12, .lp 13, .lp 14, .lp 15, .hv 16] (by kernel_rfl) ?_
      refine RefD.pure (at_ rfl) rfl (RanP.move rfl) ?_
      refine RefD.pure (at_ rfl) rfl (RanP.fieldAddr fa_47_0 rfl) ?_
      refine RefD.li0 (at_ rfl) rfl (Lt.ldI Try.isAgg3 rfl fun x21 => ?_)
      refine RefD.pure (at_ rfl) rfl (RanP.fieldAddr fa_47_2 rfl) ?_
      refine RefD.li0 (at_ rfl) rfl (Lt.ldS Try.isAgg9 rfl fun x22 => ?_)
      refine RefD.pure (at_ rfl) rfl (RanP.move rfl) ?_
      refine RefD.any (at_ rfl) rfl (Lt.nn rfl fun x23 => ?_)
      refine RefD.pure (at_ rfl) rfl (RanP.fieldAddr fa_71_0 rfl) ?_
      refine RefD.pure (at_ rfl) rfl (RanP.fieldAddr fa_25_4 rfl) ?_
      refine RefD.li0 (at_ rfl) rfl (Lt.ldI Try.isAgg3 rfl fun x24 => ?_)
      refine RefD.hv (at_ rfl) rfl (Hv.call (cut_Frames_ref K x21 x22 x24) Try.call34 rfl rfl rfl fun x25 => ?_)
      refine RefD.pure (at_ rfl) rfl (RanP.move rfl) ?_
      refine RefD.pure (at_ rfl) rfl (RanP.extract rfl rfl) ?_
      refine RefD.pure (at_ rfl) rfl (RanP.extract rfl rfl) ?_
      refine RefD.any (at_ rfl) rfl (Lt.nn rfl fun x26 => ?_)
      refine RefD.pure (at_ rfl) rfl (RanP.fieldAddr fa_71_5 rfl) ?_
      refine RefD.hv (at_ rfl) rfl (Hv.st Try.sizeOf54 rfl rfl rfl ?_)
      refine RefD.nil ?_
      refine RefE.next ?_
      refine RefC.seq ?_
      refine RefC.region ?_
      refine RefL.pure rfl rfl (RanP.move rfl) ?_
      refine RefL.hv rfl rfl (Hv.call (leg_Leg_move_ref K a0) Try.call35 rfl rfl rfl fun x27 => ?_)
      refine RefL.nil ?_
      refine RefE.next ?_
      refine RefC.seq ?_
      refine RefC.region ?_
      refine RefL.pure rfl rfl (RanP.assign rfl) ?_
      refine RefL.nil ?_
      refine RefE.next ?_
      refine RefC.ret ?_
      refine RefE.retV rfl ?_
      refine RefV.tmp rfl ?_
      exact RefV.nil rfl

def leg_Leg_Ping (K : Nat) (a0 : Option Addr) (a1 : ByteArray) : G (Bool) :=
  nn a0 fun x1 =>
  ldB (x1.add 20) fun x2 =>
  bnd (
    if x2 = true then
      ret true
    else
      nn a0 fun x4 =>
      ldB (x4.add 21) fun x5 =>
      ret x5) fun (x3 : Bool) =>
  bnd (
    if x3 = true then
      ret true
    else
      nn a0 fun x7 =>
      ldI .i64 (x7.add 22) fun x8 =>
      ret (x8 != (0 : Int))) fun (x6 : Bool) =>
  bnd (
    if x6 = true then
      ret true
    else
      ret (decide ((125 : Int) < (a1.size : Int)))) fun (x9 : Bool) =>
  if x9 = true then
    ret false
  else
    nn a0 fun x10 =>
    ldSl (x10.add 16) fun x11 =>
    new (Agg.cells (Tapi_Frame.mk true (9 : Int) false (0 : Int) (0 : Int) (0 : Int) (0 : Int) a1)) 59 fun x12 =>
    appS 59 8 40 [.bool false, .int .i64 (0 : Int), .bool false, .int .u8 (0 : Int), .int .u8 (0 : Int), .int .u8 (0 : Int), .int .u8 (0 : Int), .string (ByteArray.mk #[])] x11 (Sl.mk (some x12) 1 1) fun x13 =>
    nn a0 fun x14 =>
    st (x14.add 16) (.slice x13.a x13.n x13.c) <|
    bnd (leg_Leg_move K a0) fun x15 =>
    ret true
set_option maxRecDepth 100000 in
theorem leg_Leg_Ping_ref (K : Nat) (a0 : Option Addr) (a1 : ByteArray) : Does Try.prog 19 [.pointer a0, .string a1] (leg_Leg_Ping K a0 a1) (fun r => .bool r) := by
  refine Does.of Try.func19 rfl rfl rfl ?_
  unfold leg_Leg_Ping
  refine RefC.seq ?_
  refine RefC.region ?_
  refine RefL.pure rfl rfl (RanP.assign rfl) ?_
  refine RefL.nil ?_
  refine RefE.next ?_
  refine RefC.seq ?_
  refine RefC.seq ?_
  refine RefC.region ?_
  refine RefL.pure rfl rfl (RanP.move rfl) ?_
  refine RefL.li rfl rfl (Lt.nn rfl fun x1 => ?_)
  refine RefL.pure rfl rfl (RanP.fieldAddr fa_71_8 rfl) ?_
  refine RefL.li rfl rfl (Lt.ldB Try.isAgg4 rfl fun x2 => ?_)
  refine RefL.pure rfl rfl (RanP.move rfl) ?_
  refine RefL.cut (enc := fun (x3 : Bool) => ([(14, .bool x3), (0, .pointer a0), (1, .string a1)] : Env)) 5 ?_ ?_
  · refine RefL.ite (s := 9) rfl ?_ ?_
    · refine RefL.skip rfl rfl ?_
      refine RefL.skip rfl rfl ?_
      refine RefL.skip rfl rfl ?_
      refine RefL.skip rfl rfl ?_
      refine RefL.pure rfl rfl (RanP.pickT rfl rfl) ?_
      refine RefL.nil ?_
      exact RefE.fin (s := true) ⟨rfl, rfl, rfl, trivial⟩
    · refine RefL.pure rfl rfl (RanP.move rfl) ?_
      refine RefL.li rfl rfl (Lt.nn rfl fun x4 => ?_)
      refine RefL.pure rfl rfl (RanP.fieldAddr fa_71_9 rfl) ?_
      refine RefL.li rfl rfl (Lt.ldB Try.isAgg4 rfl fun x5 => ?_)
      refine RefL.pure rfl rfl (RanP.pickF rfl rfl) ?_
      refine RefL.nil ?_
      exact RefE.fin (s := x5) ⟨rfl, rfl, rfl, trivial⟩
  · intro x3
    refine RefL.pure rfl rfl (RanP.move rfl) ?_
    refine RefL.cut (enc := fun (x6 : Bool) => ([(21, .bool x6), (0, .pointer a0), (1, .string a1)] : Env)) 6 ?_ ?_
    · refine RefL.ite (s := 15) rfl ?_ ?_
      · refine RefL.skip rfl rfl ?_
        refine RefL.skip rfl rfl ?_
        refine RefL.skip rfl rfl ?_
        refine RefL.skip rfl rfl ?_
        refine RefL.skip rfl rfl ?_
        refine RefL.pure rfl rfl (RanP.pickT rfl rfl) ?_
        refine RefL.nil ?_
        exact RefE.fin (s := true) ⟨rfl, rfl, rfl, trivial⟩
      · refine RefL.pure rfl rfl (RanP.move rfl) ?_
        refine RefL.li rfl rfl (Lt.nn rfl fun x7 => ?_)
        refine RefL.pure rfl rfl (RanP.fieldAddr fa_71_10 rfl) ?_
        refine RefL.li rfl rfl (Lt.ldI Try.isAgg28 rfl fun x8 => ?_)
        refine RefL.pure rfl rfl (RanP.neq rfl rfl) ?_
        refine RefL.pure rfl rfl (RanP.pickF rfl rfl) ?_
        refine RefL.nil ?_
        exact RefE.fin (s := (x8 != (0 : Int))) ⟨rfl, rfl, rfl, trivial⟩
    · intro x6
      refine RefL.pure rfl rfl (RanP.move rfl) ?_
      refine RefL.cut (enc := fun (x9 : Bool) => ([(26, .bool x9), (0, .pointer a0), (1, .string a1)] : Env)) 4 ?_ ?_
      · refine RefL.ite (s := 22) rfl ?_ ?_
        · refine RefL.skip rfl rfl ?_
          refine RefL.skip rfl rfl ?_
          refine RefL.skip rfl rfl ?_
          refine RefL.pure rfl rfl (RanP.pickT rfl rfl) ?_
          refine RefL.nil ?_
          exact RefE.fin (s := true) ⟨rfl, rfl, rfl, trivial⟩
        · refine RefL.pure rfl rfl (RanP.move rfl) ?_
          refine RefL.pure rfl rfl (RanP.lenS rfl Try.underlying9 rfl) ?_
          refine RefL.pure rfl rfl (RanP.gtr rfl rfl) ?_
          refine RefL.pure rfl rfl (RanP.pickF rfl rfl) ?_
          refine RefL.nil ?_
          exact RefE.fin (s := (decide ((125 : Int) < (a1.size : Int)))) ⟨rfl, rfl, rfl, trivial⟩
      · intro x9
        refine RefL.nil ?_
        refine RefE.next ?_
        refine RefC.cond rfl ?_ ?_
        · refine RefC.seq ?_
          refine RefC.region ?_
          refine RefL.pure rfl rfl (RanP.assign rfl) ?_
          refine RefL.nil ?_
          refine RefE.next ?_
          refine RefC.ret ?_
          refine RefE.thenRet ?_
          refine RefE.retV rfl ?_
          refine RefV.tmp rfl ?_
          exact RefV.nil rfl
        · refine RefC.skip ?_
          refine RefE.next ?_
          refine RefC.seq ?_
          refine RefC.region ?_
          refine RefL.pure rfl rfl (RanP.move rfl) ?_
          refine RefL.pure rfl rfl (RanP.move rfl) ?_
          refine RefL.li rfl rfl (Lt.nn rfl fun x10 => ?_)
          refine RefL.pure rfl rfl (RanP.fieldAddr fa_71_4 rfl) ?_
          refine RefL.li rfl rfl (Lt.ldSl Try.isAgg54 rfl fun x11 => ?_)
          refine RefL.pure rfl rfl (RanP.move rfl) ?_
          refine RefL.pure rfl rfl (RanP.build rfl (v := .agg (Agg.cells (Tapi_Frame.mk true (9 : Int) false (0 : Int) (0 : Int) (0 : Int) (0 : Int) a1)).toArray) (fun _ => by kernel_rfl)) ?_
          refine RefL.hv rfl rfl (Hv.buildSlice rfl (cs := (Agg.cells (Tapi_Frame.mk true (9 : Int) false (0 : Int) (0 : Int) (0 : Int) (0 : Int) a1))) (e := 59) (fun _ => by kernel_rfl) fun x12 => ?_)
          refine RefL.hv rfl rfl (Hv.appS (i := Try.t59) rfl Try.underlying54 Try.underlying54 rfl rfl rfl rfl fun x13 => ?_)
          refine RefL.li rfl rfl (Lt.nn rfl fun x14 => ?_)
          refine RefL.pure rfl rfl (RanP.fieldAddr fa_71_4 rfl) ?_
          refine RefL.hv rfl rfl (Hv.st Try.sizeOf54 rfl rfl rfl ?_)
          refine RefL.nil ?_
          refine RefE.next ?_
          refine RefC.seq ?_
          refine RefC.region ?_
          refine RefL.pure rfl rfl (RanP.move rfl) ?_
          refine RefL.hv rfl rfl (Hv.call (leg_Leg_move_ref K a0) Try.call35 rfl rfl rfl fun x15 => ?_)
          refine RefL.nil ?_
          refine RefE.next ?_
          refine RefC.seq ?_
          refine RefC.region ?_
          refine RefL.pure rfl rfl (RanP.assign rfl) ?_
          refine RefL.nil ?_
          refine RefE.next ?_
          refine RefC.ret ?_
          refine RefE.retV rfl ?_
          refine RefV.tmp rfl ?_
          exact RefV.nil rfl

def leg_Leg_Peek (K : Nat) (a0 : Option Addr) (a1 : Int) : G (Sl) :=
  nn a0 fun x1 =>
  ldP ((x1.add 14).add 0) fun x2 =>
  bnd (ring_Ring_Peek K x2 a1) fun x3 =>
  ret x3
set_option maxRecDepth 100000 in
theorem leg_Leg_Peek_ref (K : Nat) (a0 : Option Addr) (a1 : Int) : Does Try.prog 22 [.pointer a0, .int .i64 a1] (leg_Leg_Peek K a0 a1) (fun r => .slice r.a r.n r.c) := by
  refine Does.of Try.func22 rfl rfl rfl ?_
  unfold leg_Leg_Peek
  refine RefC.seq ?_
  refine RefC.region ?_
  refine RefL.pure rfl rfl (RanP.assign rfl) ?_
  refine RefL.nil ?_
  refine RefE.next ?_
  refine RefC.seq ?_
  refine RefC.region ?_
  refine RefL.pure rfl rfl (RanP.move rfl) ?_
  refine RefL.li rfl rfl (Lt.nn rfl fun x1 => ?_)
  refine RefL.pure rfl rfl (RanP.fieldAddr fa_71_3 rfl) ?_
  refine RefL.pure rfl rfl (RanP.fieldAddr fa_69_0 rfl) ?_
  refine RefL.li rfl rfl (Lt.ldP Try.isAgg67 rfl fun x2 => ?_)
  refine RefL.pure rfl rfl (RanP.move rfl) ?_
  refine RefL.hv rfl rfl (Hv.call (ring_Ring_Peek_ref K x2 a1) Try.call38 rfl rfl rfl fun x3 => ?_)
  refine RefL.pure rfl rfl (RanP.assign rfl) ?_
  refine RefL.nil ?_
  refine RefE.next ?_
  refine RefC.ret ?_
  refine RefE.retV rfl ?_
  refine RefV.tmp rfl ?_
  exact RefV.nil rfl

def law16_awake (K : Nat) : G (Bool) :=
  bnd (law16_Config K (99 : Int) (49 : Int) (99 : Int)) fun x1 =>
  bnd (leg_New K x1 true (7 : Int)) fun x2 =>
  bnd (
    if (x2.2 != (0 : Int)) = true then
      ret true
    else
      ret (Option.isNone x2.1)) fun (x3 : Bool) =>
  if x3 = true then
    ret false
  else
    bnd (leg_Leg_Free K x2.1) fun x4 =>
    new [.int .u8 (129 : Int), .int .u8 (0 : Int)] 5 fun x5 =>
    bnd (leg_Leg_Feed K x2.1 (Sl.mk (some x5) 2 2)) fun x6 =>
    bnd (leg_Leg_Take K x2.1 (100 : Int)) fun x7 =>
    bnd (
      if x4 = true then
        ret ((x6.n : Int) == (0 : Int))
      else
        ret false) fun (x8 : Bool) =>
    bnd (
      if x8 = true then
        strOf x7 fun x10 =>
        ret (sEq x10 (ByteArray.mk #[136, 2, 3, 234]))
      else
        ret false) fun (x9 : Bool) =>
    bnd (
      if x9 = true then
        bnd (leg_Leg_Wrong K x2.1) fun x12 =>
        ret (x12 == (100 : Int))
      else
        ret false) fun (x11 : Bool) =>
    bnd (
      if x11 = true then
        bnd (leg_Leg_Sent K x2.1) fun x14 =>
        ret x14
      else
        ret false) fun (x13 : Bool) =>
    bnd (
      if x13 = true then
        bnd (leg_Leg_Got K x2.1) fun x16 =>
        ret (!x16)
      else
        ret false) fun (x15 : Bool) =>
    bnd (
      if x15 = true then
        bnd (leg_Leg_Quiet K x2.1) fun x18 =>
        ret x18
      else
        ret false) fun (x17 : Bool) =>
    bnd (
      if x17 = true then
        bnd (leg_Leg_Kept K x2.1) fun x20 =>
        ret (x20 == (0 : Int))
      else
        ret false) fun (x19 : Bool) =>
    bnd (
      if x19 = true then
        bnd (leg_Leg_Send K x2.1 (Tapi_Event.mk (1 : Int) (0 : Int) (ByteArray.mk #[]))) fun x22 =>
        ret (!x22)
      else
        ret false) fun (x21 : Bool) =>
    bnd (
      if x21 = true then
        bnd (leg_Leg_Ping K x2.1 (ByteArray.mk #[])) fun x24 =>
        ret (!x24)
      else
        ret false) fun (x23 : Bool) =>
    bnd (
      if x23 = true then
        bnd (leg_Leg_Close K x2.1 (1000 : Int) (ByteArray.mk #[])) fun x26 =>
        ret (!x26)
      else
        ret false) fun (x25 : Bool) =>
    bnd (
      if x25 = true then
        bnd (leg_Leg_Peek K x2.1 (9 : Int)) fun x28 =>
        ret ((x28.n : Int) == (0 : Int))
      else
        ret false) fun (x27 : Bool) =>
    ret x27
set_option maxRecDepth 100000 in
theorem law16_awake_ref (K : Nat) : Does Try.prog 10 [] (law16_awake K) (fun r => .bool r) := by
  refine Does.of Try.func10 rfl rfl rfl ?_
  unfold law16_awake
  refine RefC.seq ?_
  refine RefC.region ?_
  refine RefL.pure rfl rfl (RanP.assign rfl) ?_
  refine RefL.nil ?_
  refine RefE.next ?_
  refine RefC.seq ?_
  refine RefC.region ?_
  refine RefL.hv rfl rfl (Hv.call (law16_Config_ref K (99 : Int) (49 : Int) (99 : Int)) Try.call8 rfl rfl rfl fun x1 => ?_)
  refine RefL.hv rfl rfl (Hv.call (leg_New_ref K x1 true (7 : Int)) Try.call9 rfl rfl rfl fun x2 => ?_)
  refine RefL.pure rfl rfl (RanP.move rfl) ?_
  refine RefL.pure rfl rfl (RanP.extract rfl rfl) ?_
  refine RefL.pure rfl rfl (RanP.extract rfl rfl) ?_
  refine RefL.pure rfl rfl (RanP.assign rfl) ?_
  refine RefL.pure rfl rfl (RanP.assign rfl) ?_
  refine RefL.nil ?_
  refine RefE.next ?_
  refine RefC.seq ?_
  refine RefC.seq ?_
  refine RefC.region ?_
  refine RefL.pure rfl rfl (RanP.move rfl) ?_
  refine RefL.pure rfl rfl (RanP.neq rfl rfl) ?_
  refine RefL.pure rfl rfl (RanP.move rfl) ?_
  refine RefL.cut (enc := fun (x3 : Bool) => ([(16, .bool x3), (1, .pointer x2.1)] : Env)) 3 ?_ ?_
  · refine RefL.ite (s := 13) rfl ?_ ?_
    · refine RefL.skip rfl rfl ?_
      refine RefL.skip rfl rfl ?_
      refine RefL.pure rfl rfl (RanP.pickT rfl rfl) ?_
      refine RefL.nil ?_
      exact RefE.fin (s := true) ⟨rfl, rfl, trivial⟩
    · refine RefL.pure rfl rfl (RanP.move rfl) ?_
      refine RefL.pure rfl rfl (RanP.eqlNil Try.underlying27 rfl rfl) ?_
      refine RefL.pure rfl rfl (RanP.pickF rfl rfl) ?_
      refine RefL.nil ?_
      exact RefE.fin (s := (Option.isNone x2.1)) ⟨rfl, rfl, trivial⟩
  · intro x3
    refine RefL.nil ?_
    refine RefE.next ?_
    refine RefC.cond rfl ?_ ?_
    · refine RefC.seq ?_
      refine RefC.region ?_
      refine RefL.pure rfl rfl (RanP.assign rfl) ?_
      refine RefL.nil ?_
      refine RefE.next ?_
      refine RefC.ret ?_
      refine RefE.thenRet ?_
      refine RefE.retV rfl ?_
      refine RefV.tmp rfl ?_
      exact RefV.nil rfl
    · refine RefC.skip ?_
      refine RefE.next ?_
      refine RefC.seq ?_
      refine RefC.region ?_
      refine RefL.pure rfl rfl (RanP.move rfl) ?_
      refine RefL.hv rfl rfl (Hv.call (leg_Leg_Free_ref K x2.1) Try.call26 rfl rfl rfl fun x4 => ?_)
      refine RefL.pure rfl rfl (RanP.assign rfl) ?_
      refine RefL.nil ?_
      refine RefE.next ?_
      refine RefC.seq ?_
      refine RefC.region ?_
      refine RefL.pure rfl rfl (RanP.move rfl) ?_
      refine RefL.hv rfl rfl (Hv.buildSlice rfl (cs := [.int .u8 (129 : Int), .int .u8 (0 : Int)]) (e := 5) (fun _ => by kernel_rfl) fun x5 => ?_)
      refine RefL.hv rfl rfl (Hv.call (leg_Leg_Feed_ref K x2.1 (Sl.mk (some x5) 2 2)) Try.call12 rfl rfl rfl fun x6 => ?_)
      refine RefL.pure rfl rfl (RanP.assign rfl) ?_
      refine RefL.nil ?_
      refine RefE.next ?_
      refine RefC.seq ?_
      refine RefC.region ?_
      refine RefL.pure rfl rfl (RanP.move rfl) ?_
      refine RefL.hv rfl rfl (Hv.call (leg_Leg_Take_ref K x2.1 (100 : Int)) Try.call21 rfl rfl rfl fun x7 => ?_)
      refine RefL.pure rfl rfl (RanP.assign rfl) ?_
      refine RefL.nil ?_
      refine RefE.next ?_
      refine RefC.seq ?_
      refine RefC.region ?_
      refine RefL.pure rfl rfl (RanP.move rfl) ?_
      refine RefL.pure rfl rfl (RanP.move rfl) ?_
      refine RefL.cut (enc := fun (x8 : Bool) => ([(29, .bool x8), (1, .pointer x2.1), (5, .slice x7.a x7.n x7.c)] : Env)) 4 ?_ ?_
      · refine RefL.ite (s := 25) rfl ?_ ?_
        · refine RefL.pure rfl rfl (RanP.move rfl) ?_
          refine RefL.pure rfl rfl (RanP.lenSl rfl Try.underlying34 rfl) ?_
          refine RefL.pure rfl rfl (RanP.eql rfl rfl) ?_
          refine RefL.pure rfl rfl (RanP.pickT rfl rfl) ?_
          refine RefL.nil ?_
          exact RefE.fin (s := ((x6.n : Int) == (0 : Int))) ⟨rfl, rfl, rfl, trivial⟩
        · refine RefL.skip rfl rfl ?_
          refine RefL.skip rfl rfl ?_
          refine RefL.skip rfl rfl ?_
          refine RefL.pure rfl rfl (RanP.pickF rfl rfl) ?_
          refine RefL.nil ?_
          exact RefE.fin (s := false) ⟨rfl, rfl, rfl, trivial⟩
      · intro x8
        refine RefL.pure rfl rfl (RanP.move rfl) ?_
        refine RefL.cut (enc := fun (x9 : Bool) => ([(34, .bool x9), (1, .pointer x2.1)] : Env)) 4 ?_ ?_
        · refine RefL.ite (s := 30) rfl ?_ ?_
          · refine RefL.pure rfl rfl (RanP.move rfl) ?_
            refine RefL.li rfl rfl (Lt.strOf Try.underlying36 Try.underlying9 Try.underlying5 rfl fun x10 => ?_)
            refine RefL.pure rfl rfl (RanP.eqlS rfl rfl) ?_
            refine RefL.pure rfl rfl (RanP.pickT rfl rfl) ?_
            refine RefL.nil ?_
            exact RefE.fin (s := (sEq x10 (ByteArray.mk #[136, 2, 3, 234]))) ⟨rfl, rfl, trivial⟩
          · refine RefL.skip rfl rfl ?_
            refine RefL.skip rfl rfl ?_
            refine RefL.skip rfl rfl ?_
            refine RefL.pure rfl rfl (RanP.pickF rfl rfl) ?_
            refine RefL.nil ?_
            exact RefE.fin (s := false) ⟨rfl, rfl, trivial⟩
        · intro x9
          refine RefL.pure rfl rfl (RanP.move rfl) ?_
          refine RefL.cut (enc := fun (x11 : Bool) => ([(39, .bool x11), (1, .pointer x2.1)] : Env)) 4 ?_ ?_
          · refine RefL.ite (s := 35) rfl ?_ ?_
            · refine RefL.pure rfl rfl (RanP.move rfl) ?_
              refine RefL.hv rfl rfl (Hv.call (leg_Leg_Wrong_ref K x2.1) Try.call14 rfl rfl rfl fun x12 => ?_)
              refine RefL.pure rfl rfl (RanP.eql rfl rfl) ?_
              refine RefL.pure rfl rfl (RanP.pickT rfl rfl) ?_
              refine RefL.nil ?_
              exact RefE.fin (s := (x12 == (100 : Int))) ⟨rfl, rfl, trivial⟩
            · refine RefL.skip rfl rfl ?_
              refine RefL.skip rfl rfl ?_
              refine RefL.skip rfl rfl ?_
              refine RefL.pure rfl rfl (RanP.pickF rfl rfl) ?_
              refine RefL.nil ?_
              exact RefE.fin (s := false) ⟨rfl, rfl, trivial⟩
          · intro x11
            refine RefL.pure rfl rfl (RanP.move rfl) ?_
            refine RefL.cut (enc := fun (x13 : Bool) => ([(43, .bool x13), (1, .pointer x2.1)] : Env)) 3 ?_ ?_
            · refine RefL.ite (s := 40) rfl ?_ ?_
              · refine RefL.pure rfl rfl (RanP.move rfl) ?_
                refine RefL.hv rfl rfl (Hv.call (leg_Leg_Sent_ref K x2.1) Try.call16 rfl rfl rfl fun x14 => ?_)
                refine RefL.pure rfl rfl (RanP.pickT rfl rfl) ?_
                refine RefL.nil ?_
                exact RefE.fin (s := x14) ⟨rfl, rfl, trivial⟩
              · refine RefL.skip rfl rfl ?_
                refine RefL.skip rfl rfl ?_
                refine RefL.pure rfl rfl (RanP.pickF rfl rfl) ?_
                refine RefL.nil ?_
                exact RefE.fin (s := false) ⟨rfl, rfl, trivial⟩
            · intro x13
              refine RefL.pure rfl rfl (RanP.move rfl) ?_
              refine RefL.cut (enc := fun (x15 : Bool) => ([(48, .bool x15), (1, .pointer x2.1)] : Env)) 4 ?_ ?_
              · refine RefL.ite (s := 44) rfl ?_ ?_
                · refine RefL.pure rfl rfl (RanP.move rfl) ?_
                  refine RefL.hv rfl rfl (Hv.call (leg_Leg_Got_ref K x2.1) Try.call15 rfl rfl rfl fun x16 => ?_)
                  refine RefL.pure rfl rfl (RanP.not rfl) ?_
                  refine RefL.pure rfl rfl (RanP.pickT rfl rfl) ?_
                  refine RefL.nil ?_
                  exact RefE.fin (s := (!x16)) ⟨rfl, rfl, trivial⟩
                · refine RefL.skip rfl rfl ?_
                  refine RefL.skip rfl rfl ?_
                  refine RefL.skip rfl rfl ?_
                  refine RefL.pure rfl rfl (RanP.pickF rfl rfl) ?_
                  refine RefL.nil ?_
                  exact RefE.fin (s := false) ⟨rfl, rfl, trivial⟩
              · intro x15
                refine RefL.pure rfl rfl (RanP.move rfl) ?_
                refine RefL.cut (enc := fun (x17 : Bool) => ([(52, .bool x17), (1, .pointer x2.1)] : Env)) 3 ?_ ?_
                · refine RefL.ite (s := 49) rfl ?_ ?_
                  · refine RefL.pure rfl rfl (RanP.move rfl) ?_
                    refine RefL.hv rfl rfl (Hv.call (leg_Leg_Quiet_ref K x2.1) Try.call24 rfl rfl rfl fun x18 => ?_)
                    refine RefL.pure rfl rfl (RanP.pickT rfl rfl) ?_
                    refine RefL.nil ?_
                    exact RefE.fin (s := x18) ⟨rfl, rfl, trivial⟩
                  · refine RefL.skip rfl rfl ?_
                    refine RefL.skip rfl rfl ?_
                    refine RefL.pure rfl rfl (RanP.pickF rfl rfl) ?_
                    refine RefL.nil ?_
                    exact RefE.fin (s := false) ⟨rfl, rfl, trivial⟩
                · intro x17
                  refine RefL.pure rfl rfl (RanP.move rfl) ?_
                  refine RefL.cut (enc := fun (x19 : Bool) => ([(57, .bool x19), (1, .pointer x2.1)] : Env)) 4 ?_ ?_
                  · refine RefL.ite (s := 53) rfl ?_ ?_
                    · refine RefL.pure rfl rfl (RanP.move rfl) ?_
                      refine RefL.hv rfl rfl (Hv.call (leg_Leg_Kept_ref K x2.1) Try.call23 rfl rfl rfl fun x20 => ?_)
                      refine RefL.pure rfl rfl (RanP.eql rfl rfl) ?_
                      refine RefL.pure rfl rfl (RanP.pickT rfl rfl) ?_
                      refine RefL.nil ?_
                      exact RefE.fin (s := (x20 == (0 : Int))) ⟨rfl, rfl, trivial⟩
                    · refine RefL.skip rfl rfl ?_
                      refine RefL.skip rfl rfl ?_
                      refine RefL.skip rfl rfl ?_
                      refine RefL.pure rfl rfl (RanP.pickF rfl rfl) ?_
                      refine RefL.nil ?_
                      exact RefE.fin (s := false) ⟨rfl, rfl, trivial⟩
                  · intro x19
                    refine RefL.pure rfl rfl (RanP.move rfl) ?_
                    refine RefL.cut (enc := fun (x21 : Bool) => ([(63, .bool x21), (1, .pointer x2.1)] : Env)) 5 ?_ ?_
                    · refine RefL.ite (s := 58) rfl ?_ ?_
                      · refine RefL.pure rfl rfl (RanP.move rfl) ?_
                        refine RefL.pure rfl rfl (RanP.build rfl (v := .agg (Agg.cells (Tapi_Event.mk (1 : Int) (0 : Int) (ByteArray.mk #[]))).toArray) (fun _ => by kernel_rfl)) ?_
                        refine RefL.hv rfl rfl (Hv.call (leg_Leg_Send_ref K x2.1 (Tapi_Event.mk (1 : Int) (0 : Int) (ByteArray.mk #[]))) Try.call18 rfl rfl rfl fun x22 => ?_)
                        refine RefL.pure rfl rfl (RanP.not rfl) ?_
                        refine RefL.pure rfl rfl (RanP.pickT rfl rfl) ?_
                        refine RefL.nil ?_
                        exact RefE.fin (s := (!x22)) ⟨rfl, rfl, trivial⟩
                      · refine RefL.skip rfl rfl ?_
                        refine RefL.skip rfl rfl ?_
                        refine RefL.skip rfl rfl ?_
                        refine RefL.skip rfl rfl ?_
                        refine RefL.pure rfl rfl (RanP.pickF rfl rfl) ?_
                        refine RefL.nil ?_
                        exact RefE.fin (s := false) ⟨rfl, rfl, trivial⟩
                    · intro x21
                      refine RefL.pure rfl rfl (RanP.move rfl) ?_
                      refine RefL.cut (enc := fun (x23 : Bool) => ([(68, .bool x23), (1, .pointer x2.1)] : Env)) 4 ?_ ?_
                      · refine RefL.ite (s := 64) rfl ?_ ?_
                        · refine RefL.pure rfl rfl (RanP.move rfl) ?_
                          refine RefL.hv rfl rfl (Hv.call (leg_Leg_Ping_ref K x2.1 (ByteArray.mk #[])) Try.call19 rfl rfl rfl fun x24 => ?_)
                          refine RefL.pure rfl rfl (RanP.not rfl) ?_
                          refine RefL.pure rfl rfl (RanP.pickT rfl rfl) ?_
                          refine RefL.nil ?_
                          exact RefE.fin (s := (!x24)) ⟨rfl, rfl, trivial⟩
                        · refine RefL.skip rfl rfl ?_
                          refine RefL.skip rfl rfl ?_
                          refine RefL.skip rfl rfl ?_
                          refine RefL.pure rfl rfl (RanP.pickF rfl rfl) ?_
                          refine RefL.nil ?_
                          exact RefE.fin (s := false) ⟨rfl, rfl, trivial⟩
                      · intro x23
                        refine RefL.pure rfl rfl (RanP.move rfl) ?_
                        refine RefL.cut (enc := fun (x25 : Bool) => ([(73, .bool x25), (1, .pointer x2.1)] : Env)) 4 ?_ ?_
                        · refine RefL.ite (s := 69) rfl ?_ ?_
                          · refine RefL.pure rfl rfl (RanP.move rfl) ?_
                            refine RefL.hv rfl rfl (Hv.call (leg_Leg_Close_ref K x2.1 (1000 : Int) (ByteArray.mk #[])) Try.call20 rfl rfl rfl fun x26 => ?_)
                            refine RefL.pure rfl rfl (RanP.not rfl) ?_
                            refine RefL.pure rfl rfl (RanP.pickT rfl rfl) ?_
                            refine RefL.nil ?_
                            exact RefE.fin (s := (!x26)) ⟨rfl, rfl, trivial⟩
                          · refine RefL.skip rfl rfl ?_
                            refine RefL.skip rfl rfl ?_
                            refine RefL.skip rfl rfl ?_
                            refine RefL.pure rfl rfl (RanP.pickF rfl rfl) ?_
                            refine RefL.nil ?_
                            exact RefE.fin (s := false) ⟨rfl, rfl, trivial⟩
                        · intro x25
                          refine RefL.pure rfl rfl (RanP.move rfl) ?_
                          refine RefL.cut (enc := fun (x27 : Bool) => ([(79, .bool x27)] : Env)) 5 ?_ ?_
                          · refine RefL.ite (s := 74) rfl ?_ ?_
                            · refine RefL.pure rfl rfl (RanP.move rfl) ?_
                              refine RefL.hv rfl rfl (Hv.call (leg_Leg_Peek_ref K x2.1 (9 : Int)) Try.call22 rfl rfl rfl fun x28 => ?_)
                              refine RefL.pure rfl rfl (RanP.lenSl rfl Try.underlying36 rfl) ?_
                              refine RefL.pure rfl rfl (RanP.eql rfl rfl) ?_
                              refine RefL.pure rfl rfl (RanP.pickT rfl rfl) ?_
                              refine RefL.nil ?_
                              exact RefE.fin (s := ((x28.n : Int) == (0 : Int))) ⟨rfl, trivial⟩
                            · refine RefL.skip rfl rfl ?_
                              refine RefL.skip rfl rfl ?_
                              refine RefL.skip rfl rfl ?_
                              refine RefL.skip rfl rfl ?_
                              refine RefL.pure rfl rfl (RanP.pickF rfl rfl) ?_
                              refine RefL.nil ?_
                              exact RefE.fin (s := false) ⟨rfl, trivial⟩
                          · intro x27
                            refine RefL.pure rfl rfl (RanP.assign rfl) ?_
                            refine RefL.nil ?_
                            refine RefE.next ?_
                            refine RefC.ret ?_
                            refine RefE.retV rfl ?_
                            refine RefV.tmp rfl ?_
                            exact RefV.nil rfl

end Go.Proofs.Ytjdnjlnfcbaokaa

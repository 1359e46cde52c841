/-
  Go functions as programs over the world, and that the model's code does what they say. Printed by gen.py (own work).
-/
import Derived.Test.YtjdnjlnfcbaokaaFn6
set_option linter.unusedVariables false
set_option linter.unusedSimpArgs false
namespace Go.Proofs.Ytjdnjlnfcbaokaa
open Go Go.Lg

def ref10_Few_l0 (K : Nat) (a0 : Sl) (again : Int → G (Unit ⊕ Bool)) (s13 : Int) : G (Unit ⊕ Bool) :=
  if (decide (s13 < (a0.n : Int))) = true then
    ixA a0 s13 1 fun x14 =>
    ldS x14 fun x15 =>
    if (decide ((300 : Int) < (x15.size : Int))) = true then
      inr (ret false)
    else
      lt (IntKind.wrap .i64 (s13 + (1 : Int))) fun x16 =>
      again (x16)
  else
    ret (.inl ())
def ref10_Few (K : Nat) (a0 : Sl) : G (Bool) :=
  bnd (
    loopG (ref10_Few_l0 K a0) K ((0 : Int))) (sumK fun (s17 : Unit) =>
  lt (decide ((a0.n : Int) ≤ (40 : Int))) fun x18 =>
  ret x18)
set_option maxRecDepth 100000 in
theorem ref10_Few_ref (K : Nat) (a0 : Sl) : Does Try.prog 11 [.slice a0.a a0.n a0.c] (ref10_Few K a0) (fun r => .bool r) := by
  refine Does.of Try.func11 rfl rfl rfl ?_
  unfold ref10_Few
  refine RefC.seq ?_
  refine RefC.region ?_
  refine RefL.pure rfl rfl (RanP.assign rfl) ?_
  refine RefL.nil ?_
  refine RefE.next ?_
  refine RefC.seq ?_
  refine RefC.seq ?_
  refine RefC.region ?_
  refine RefL.pure rfl rfl (RanP.assign rfl) ?_
  refine RefL.nil ?_
  refine RefE.next ?_
  refine RefC.cutSum (enc := fun (s17 : Unit) => ([(0, .slice a0.a a0.n a0.c)] : Env)) (KThen.mono KRet.mono) ?_ ?_
  · refine RefC.block ?_
    refine RefC.loopW (enc := fun (s13 : Int) => ([(3, .int .i64 s13), (0, .slice a0.a a0.n a0.c)] : Env)) ⟨rfl, rfl, trivial⟩ ?_ _
    intro again k ih s13
    unfold ref10_Few_l0
    refine RefC.seq ?_
    refine RefC.seq ?_
    refine RefC.region ?_
    refine RefL.pure rfl rfl (RanP.move rfl) ?_
    refine RefL.pure rfl rfl (RanP.move rfl) ?_
    refine RefL.pure rfl rfl (RanP.lenSl rfl Try.underlying22 rfl) ?_
    refine RefL.pure rfl rfl (RanP.lss rfl rfl) ?_
    refine RefL.nil ?_
    refine RefE.next ?_
    refine RefC.cond rfl ?_ ?_
    · refine RefC.skip ?_
      refine RefE.next ?_
      refine RefC.seq ?_
      refine RefC.block ?_
      refine RefC.seq ?_
      refine RefC.region ?_
      refine RefL.pure rfl rfl (RanP.move rfl) ?_
      refine RefL.pure rfl rfl (RanP.move rfl) ?_
      refine RefL.li rfl rfl (Lt.ixA Try.underlying22 Try.sizeOf9 rfl rfl fun x14 => ?_)
      refine RefL.li rfl rfl (Lt.ldS Try.isAgg9 rfl fun x15 => ?_)
      refine RefL.pure rfl rfl (RanP.lenS rfl Try.underlying9 rfl) ?_
      refine RefL.pure rfl rfl (RanP.gtr rfl rfl) ?_
      refine RefL.nil ?_
      refine RefE.next ?_
      refine RefC.cond rfl ?_ ?_
      · refine RefC.seq ?_
        refine RefC.region ?_
        refine RefL.pure rfl rfl (RanP.assign rfl) ?_
        refine RefL.nil ?_
        refine RefE.next ?_
        refine RefC.ret ?_
        refine RefE.blockRet ?_
        refine RefE.thenRet ?_
        refine RefE.roundRet ?_
        refine RefE.blockRet ?_
        refine RefE.finR ?_
        refine RefE.thenRet ?_
        refine RefE.retV rfl ?_
        refine RefV.tmp rfl ?_
        exact RefV.nil rfl
      · refine RefC.skip ?_
        refine RefE.blockNormal ?_
        refine RefE.next ?_
        refine RefC.region ?_
        refine RefL.pure rfl rfl (RanP.move rfl) ?_
        refine RefL.pure rfl rfl (RanP.add rfl rfl) ?_
        refine RefL.pure rfl rfl (RanP.assign rfl) ?_
        refine RefL.lt 3 (fun y => .int .i64 y) rfl fun x16 => ?_
        refine RefL.nil ?_
        exact RefE.again (ih (x16)) ⟨rfl, rfl, trivial⟩
    · refine RefC.exit ?_
      refine RefE.thenExit ?_
      refine RefE.roundExit ?_
      refine RefE.blockExit ?_
      exact RefE.finL (s := ()) ⟨rfl, trivial⟩
  · intro s17
    refine RefE.next ?_
    refine RefC.seq ?_
    refine RefC.region ?_
    refine RefL.pure rfl rfl (RanP.move rfl) ?_
    refine RefL.pure rfl rfl (RanP.lenSl rfl Try.underlying22 rfl) ?_
    refine RefL.pure rfl rfl (RanP.leq rfl rfl) ?_
    refine RefL.pure rfl rfl (RanP.assign rfl) ?_
    refine RefL.lt 2 (fun y => .bool y) rfl fun x18 => ?_
    refine RefL.nil ?_
    refine RefE.next ?_
    refine RefC.ret ?_
    refine RefE.retV rfl ?_
    refine RefV.tmp rfl ?_
    exact RefV.nil rfl

def ref12_Same_l0 (K : Nat) (a0 : Sl) (a1 : Sl) (again : Int → G (Unit ⊕ Bool)) (s19 : Int) : G (Unit ⊕ Bool) :=
  if (decide (s19 < (a0.n : Int))) = true then
    drw <|
    ixA a0 s19 3 fun x20 =>
    ldG (α := Tapi_Event) x20 fun x21 =>
    ixA a1 s19 3 fun x22 =>
    ldG (α := Tapi_Event) x22 fun x23 =>
    if (!Tapi_Event.eqb x21 x23) = true then
      inr (ret false)
    else
      lt (IntKind.wrap .i64 (s19 + (1 : Int))) fun x24 =>
      again (x24)
  else
    ret (.inl ())
def ref12_Same (K : Nat) (a0 : Sl) (a1 : Sl) : G (Bool) :=
  if ((a0.n : Int) != (a1.n : Int)) = true then
    ret false
  else
    bnd (
      loopG (ref12_Same_l0 K a0 a1) K ((0 : Int))) (sumK fun (s25 : Unit) =>
    ret true)
set_option maxRecDepth 100000 in
theorem ref12_Same_ref (K : Nat) (a0 : Sl) (a1 : Sl) : Does Try.prog 13 [.slice a0.a a0.n a0.c, .slice a1.a a1.n a1.c] (ref12_Same K a0 a1) (fun r => .bool r) := by
  refine Does.of Try.func13 rfl rfl rfl ?_
  unfold ref12_Same
  refine RefC.seq ?_
  refine RefC.region ?_
  refine RefL.pure rfl rfl (RanP.assign rfl) ?_
  refine RefL.nil ?_
  refine RefE.next ?_
  refine RefC.seq ?_
  refine RefC.seq ?_
  refine RefC.region ?_
  refine RefL.pure rfl rfl (RanP.move rfl) ?_
  refine RefL.pure rfl rfl (RanP.lenSl rfl Try.underlying34 rfl) ?_
  refine RefL.pure rfl rfl (RanP.move rfl) ?_
  refine RefL.pure rfl rfl (RanP.lenSl rfl Try.underlying34 rfl) ?_
  refine RefL.pure rfl rfl (RanP.neq rfl rfl) ?_
  refine RefL.nil ?_
  refine RefE.next ?_
  refine RefC.cond rfl ?_ ?_
  · refine RefC.seq ?_
    refine RefC.region ?_
    refine RefL.pure rfl rfl (RanP.assign rfl) ?_
    refine RefL.nil ?_
    refine RefE.next ?_
    refine RefC.ret ?_
    refine RefE.thenRet ?_
    refine RefE.retV rfl ?_
    refine RefV.tmp rfl ?_
    exact RefV.nil rfl
  · refine RefC.skip ?_
    refine RefE.next ?_
    refine RefC.seq ?_
    refine RefC.seq ?_
    refine RefC.region ?_
    refine RefL.pure rfl rfl (RanP.assign rfl) ?_
    refine RefL.nil ?_
    refine RefE.next ?_
    refine RefC.cutSum (enc := fun (s25 : Unit) => ([] : Env)) (KThen.mono KRet.mono) ?_ ?_
    · refine RefC.block ?_
      refine RefC.loopW (enc := fun (s19 : Int) => ([(5, .int .i64 s19), (0, .slice a0.a a0.n a0.c), (1, .slice a1.a a1.n a1.c)] : Env)) ⟨rfl, rfl, rfl, trivial⟩ ?_ _
      intro again k ih s19
      unfold ref12_Same_l0
      refine RefC.seq ?_
      refine RefC.seq ?_
      refine RefC.region ?_
      refine RefL.pure rfl rfl (RanP.move rfl) ?_
      refine RefL.pure rfl rfl (RanP.move rfl) ?_
      refine RefL.pure rfl rfl (RanP.lenSl rfl Try.underlying34 rfl) ?_
      refine RefL.pure rfl rfl (RanP.lss rfl rfl) ?_
      refine RefL.nil ?_
      refine RefE.next ?_
      refine RefC.cond rfl ?_ ?_
      · refine RefC.skip ?_
        refine RefE.next ?_
        refine RefC.seq ?_
        refine RefC.block ?_
        refine RefC.seq ?_
        refine RefC.draw mixed [0, 0, 3, 7, 0, 0, 48, 112, 255] [.lp 0, .lp 1, .lp 2, .li 3, .lp 4, .lp 5, .lp 6, .li 7, .lp 8] (by kernel_rfl) ?_
        refine RefD.pure (at_ rfl) rfl (RanP.move rfl) ?_
        refine RefD.pure (at_ rfl) rfl (RanP.move rfl) ?_
        refine RefD.any (at_ rfl) rfl (Lt.ixA Try.underlying34 Try.sizeOf47 rfl rfl fun x20 => ?_)
        refine RefD.li0 (at_ rfl) rfl (Lt.ldG (τ := Tapi_Event) Try.isAgg47 Try.sizeOf47 rfl fun x21 => ?_)
        refine RefD.pure (at_ rfl) rfl (RanP.move rfl) ?_
        refine RefD.pure (at_ rfl) rfl (RanP.move rfl) ?_
        refine RefD.any (at_ rfl) rfl (Lt.ixA Try.underlying34 Try.sizeOf47 rfl rfl fun x22 => ?_)
        refine RefD.li0 (at_ rfl) rfl (Lt.ldG (τ := Tapi_Event) Try.isAgg47 Try.sizeOf47 rfl fun x23 => ?_)
        refine RefD.pure (at_ rfl) rfl (RanP.neqA (ne_47_run x21 x23) rfl rfl) ?_
        refine RefD.nil ?_
        refine RefE.next ?_
        refine RefC.cond rfl ?_ ?_
        · refine RefC.seq ?_
          refine RefC.region ?_
          refine RefL.pure rfl rfl (RanP.assign rfl) ?_
          refine RefL.nil ?_
          refine RefE.next ?_
          refine RefC.ret ?_
          refine RefE.blockRet ?_
          refine RefE.thenRet ?_
          refine RefE.roundRet ?_
          refine RefE.blockRet ?_
          refine RefE.finR ?_
          refine RefE.thenRet ?_
          refine RefE.retV rfl ?_
          refine RefV.tmp rfl ?_
          exact RefV.nil rfl
        · refine RefC.skip ?_
          refine RefE.blockNormal ?_
          refine RefE.next ?_
          refine RefC.region ?_
          refine RefL.pure rfl rfl (RanP.move rfl) ?_
          refine RefL.pure rfl rfl (RanP.add rfl rfl) ?_
          refine RefL.pure rfl rfl (RanP.assign rfl) ?_
          refine RefL.lt 5 (fun y => .int .i64 y) rfl fun x24 => ?_
          refine RefL.nil ?_
          exact RefE.again (ih (x24)) ⟨rfl, rfl, rfl, trivial⟩
      · refine RefC.exit ?_
        refine RefE.thenExit ?_
        refine RefE.roundExit ?_
        refine RefE.blockExit ?_
        exact RefE.finL (s := ()) trivial
    · intro s25
      refine RefE.next ?_
      refine RefC.seq ?_
      refine RefC.region ?_
      refine RefL.pure rfl rfl (RanP.assign rfl) ?_
      refine RefL.nil ?_
      refine RefE.next ?_
      refine RefC.ret ?_
      refine RefE.retV rfl ?_
      refine RefV.tmp rfl ?_
      exact RefV.nil rfl

def law16_LegReads_l0 (K : Nat) (x21 : Sl) (x4 : Option Addr × Int) (again : (ByteArray × Sl × Int) → G (ByteArray × Sl)) (s55 : ByteArray × Sl × Int) : G (ByteArray × Sl) :=
  if (decide (s55.2.2 < (x21.n : Int))) = true then
    ixA x21 s55.2.2 1 fun x56 =>
    ldS x56 fun x57 =>
    chk (s55.1.size + x57.size ≤ 9223372036854775807) <|
    lt (s55.1 ++ x57) fun x59 =>
    ixA x21 s55.2.2 1 fun x60 =>
    ldS x60 fun x61 =>
    bytesOf 5 x61 fun x62 =>
    bnd (leg_Leg_Feed K x4.1 x62) fun x63 =>
    appS 47 3 32 [.int .i64 (0 : Int), .int .i64 (0 : Int), .string (ByteArray.mk #[])] s55.2.1 x63 fun x64 =>
    lt (IntKind.wrap .i64 (s55.2.2 + (1 : Int))) fun x65 =>
    again (x59, x64, x65)
  else
    ret (s55.1, s55.2.1)
def law16_LegReads (K : Nat) (a0 : Bool) (a1 : Sl) (a2 : Sl) : G (Bool) :=
  bnd (law16_Config K (250 : Int) (50 : Int) (250 : Int)) fun x1 =>
  new [.slice Sl.nil.a Sl.nil.n Sl.nil.c, .slice Sl.nil.a Sl.nil.n Sl.nil.c, .int .i64 (0 : Int), .int .i64 (0 : Int), .int .i64 (0 : Int), .int .i64 (0 : Int), .int .i64 (0 : Int), .int .i64 (0 : Int), .int .i64 (0 : Int), .int .i64 (0 : Int), .int .i64 (0 : Int), .int .i64 (0 : Int)] 25 fun x2 =>
  st x2 (.agg (Agg.cells x1).toArray) <|
  ldG (α := Tapi_Config) x2 fun x3 =>
  bnd (leg_New K x3 a0 (1 : Int)) fun x4 =>
  ldG (α := Tapi_Config) x2 fun x5 =>
  bnd (leg_New K x5 a0 (1 : Int)) fun x6 =>
  bnd (law16_awake K) fun x7 =>
  bnd (
    if (!x7) = true then
      ret true
    else
      ret (x4.2 != (0 : Int))) fun (x8 : Bool) =>
  bnd (
    if x8 = true then
      ret true
    else
      ret (x6.2 != (0 : Int))) fun (x9 : Bool) =>
  bnd (
    if x9 = true then
      ret true
    else
      ret (Option.isNone x4.1)) fun (x10 : Bool) =>
  bnd (
    if x10 = true then
      ret true
    else
      ret (Option.isNone x6.1)) fun (x11 : Bool) =>
  bnd (
    if x11 = true then
      ret true
    else
      bnd (ref10_Few K a1) fun x13 =>
      ret (!x13)) fun (x12 : Bool) =>
  bnd (
    if x12 = true then
      ret true
    else
      bnd (ref10_Few K a2) fun x15 =>
      ret (!x15)) fun (x14 : Bool) =>
  if x14 = true then
    bnd (law16_awake K) fun x16 =>
    ret x16
  else
    new [] 47 fun x17 =>
    lt (ByteArray.mk #[]) fun x18 =>
    new [] 9 fun x19 =>
    appS 9 1 16 [.string (ByteArray.mk #[])] (Sl.mk (some x19) 0 0) a1 fun x20 =>
    appS 9 1 16 [.string (ByteArray.mk #[])] x20 a2 fun x21 =>
    bnd (
      loopG (law16_LegReads_l0 K x21 x4) K (x18, (Sl.mk (some x17) 0 0), (0 : Int))) fun (s66 : ByteArray × Sl) =>
    bytesOf 5 s66.1 fun x67 =>
    bnd (leg_Leg_Feed K x6.1 x67) fun x68 =>
    bnd (ref12_Same K s66.2 x68) fun x69 =>
    bnd (
      if x69 = true then
        bnd (leg_Leg_Wrong K x4.1) fun x71 =>
        bnd (leg_Leg_Wrong K x6.1) fun x72 =>
        ret (x71 == x72)
      else
        ret false) fun (x70 : Bool) =>
    bnd (
      if x70 = true then
        bnd (leg_Leg_Got K x4.1) fun x74 =>
        bnd (leg_Leg_Got K x6.1) fun x75 =>
        ret (x74 == x75)
      else
        ret false) fun (x73 : Bool) =>
    bnd (
      if x73 = true then
        bnd (leg_Leg_Sent K x4.1) fun x77 =>
        bnd (leg_Leg_Sent K x6.1) fun x78 =>
        ret (x77 == x78)
      else
        ret false) fun (x76 : Bool) =>
    ret x76
set_option maxRecDepth 100000 in
theorem law16_LegReads_ref (K : Nat) (a0 : Bool) (a1 : Sl) (a2 : Sl) : Does Try.prog 3 [.bool a0, .slice a1.a a1.n a1.c, .slice a2.a a2.n a2.c] (law16_LegReads K a0 a1 a2) (fun r => .bool r) := by
  refine Does.of Try.func3 rfl rfl rfl ?_
  unfold law16_LegReads
  refine RefC.seq ?_
  refine RefC.region ?_
  refine RefL.pure rfl rfl (RanP.assign rfl) ?_
  refine RefL.nil ?_
  refine RefE.next ?_
  refine RefC.seq ?_
  refine RefC.region ?_
  refine RefL.hv rfl rfl (Hv.call (law16_Config_ref K (250 : Int) (50 : Int) (250 : Int)) Try.call8 rfl rfl rfl fun x1 => ?_)
  refine RefL.hv rfl rfl (Hv.newZ Try.zeroValue25 rfl fun x2 => ?_)
  refine RefL.hv rfl rfl (Hv.st Try.sizeOf25 rfl rfl rfl ?_)
  refine RefL.nil ?_
  refine RefE.next ?_
  refine RefC.seq ?_
  refine RefC.region ?_
  refine RefL.li rfl rfl (Lt.ldG (τ := Tapi_Config) Try.isAgg25 Try.sizeOf25 rfl fun x3 => ?_)
  refine RefL.pure rfl rfl (RanP.move rfl) ?_
  refine RefL.hv rfl rfl (Hv.call (leg_New_ref K x3 a0 (1 : Int)) Try.call9 rfl rfl rfl fun x4 => ?_)
  refine RefL.pure rfl rfl (RanP.move rfl) ?_
  refine RefL.pure rfl rfl (RanP.extract rfl rfl) ?_
  refine RefL.pure rfl rfl (RanP.extract rfl rfl) ?_
  refine RefL.pure rfl rfl (RanP.assign rfl) ?_
  refine RefL.pure rfl rfl (RanP.assign rfl) ?_
  refine RefL.nil ?_
  refine RefE.next ?_
  refine RefC.seq ?_
  refine RefC.region ?_
  refine RefL.li rfl rfl (Lt.ldG (τ := Tapi_Config) Try.isAgg25 Try.sizeOf25 rfl fun x5 => ?_)
  refine RefL.pure rfl rfl (RanP.move rfl) ?_
  refine RefL.hv rfl rfl (Hv.call (leg_New_ref K x5 a0 (1 : Int)) Try.call9 rfl rfl rfl fun x6 => ?_)
  refine RefL.pure rfl rfl (RanP.move rfl) ?_
  refine RefL.pure rfl rfl (RanP.extract rfl rfl) ?_
  refine RefL.pure rfl rfl (RanP.extract rfl rfl) ?_
  refine RefL.pure rfl rfl (RanP.assign rfl) ?_
  refine RefL.pure rfl rfl (RanP.assign rfl) ?_
  refine RefL.nil ?_
  refine RefE.next ?_
  refine RefC.seq ?_
  refine RefC.seq ?_
  refine RefC.region ?_
  refine RefL.hv rfl rfl (Hv.call (law16_awake_ref K) Try.call10 rfl rfl rfl fun x7 => ?_)
  refine RefL.pure rfl rfl (RanP.not rfl) ?_
  refine RefL.pure rfl rfl (RanP.move rfl) ?_
  refine RefL.cut (enc := fun (x8 : Bool) => ([(34, .bool x8), (1, .slice a1.a a1.n a1.c), (2, .slice a2.a a2.n a2.c), (8, .pointer x4.1), (10, .pointer x6.1), (11, .int .i64 x6.2)] : Env)) 3 ?_ ?_
  · refine RefL.ite (s := 31) rfl ?_ ?_
    · refine RefL.skip rfl rfl ?_
      refine RefL.skip rfl rfl ?_
      refine RefL.pure rfl rfl (RanP.pickT rfl rfl) ?_
      refine RefL.nil ?_
      exact RefE.fin (s := true) ⟨rfl, rfl, rfl, rfl, rfl, rfl, trivial⟩
    · refine RefL.pure rfl rfl (RanP.move rfl) ?_
      refine RefL.pure rfl rfl (RanP.neq rfl rfl) ?_
      refine RefL.pure rfl rfl (RanP.pickF rfl rfl) ?_
      refine RefL.nil ?_
      exact RefE.fin (s := (x4.2 != (0 : Int))) ⟨rfl, rfl, rfl, rfl, rfl, rfl, trivial⟩
  · intro x8
    refine RefL.pure rfl rfl (RanP.move rfl) ?_
    refine RefL.cut (enc := fun (x9 : Bool) => ([(38, .bool x9), (1, .slice a1.a a1.n a1.c), (2, .slice a2.a a2.n a2.c), (8, .pointer x4.1), (10, .pointer x6.1)] : Env)) 3 ?_ ?_
    · refine RefL.ite (s := 35) rfl ?_ ?_
      · refine RefL.skip rfl rfl ?_
        refine RefL.skip rfl rfl ?_
        refine RefL.pure rfl rfl (RanP.pickT rfl rfl) ?_
        refine RefL.nil ?_
        exact RefE.fin (s := true) ⟨rfl, rfl, rfl, rfl, rfl, trivial⟩
      · refine RefL.pure rfl rfl (RanP.move rfl) ?_
        refine RefL.pure rfl rfl (RanP.neq rfl rfl) ?_
        refine RefL.pure rfl rfl (RanP.pickF rfl rfl) ?_
        refine RefL.nil ?_
        exact RefE.fin (s := (x6.2 != (0 : Int))) ⟨rfl, rfl, rfl, rfl, rfl, trivial⟩
    · intro x9
      refine RefL.pure rfl rfl (RanP.move rfl) ?_
      refine RefL.cut (enc := fun (x10 : Bool) => ([(42, .bool x10), (1, .slice a1.a a1.n a1.c), (2, .slice a2.a a2.n a2.c), (8, .pointer x4.1), (10, .pointer x6.1)] : Env)) 3 ?_ ?_
      · refine RefL.ite (s := 39) rfl ?_ ?_
        · refine RefL.skip rfl rfl ?_
          refine RefL.skip rfl rfl ?_
          refine RefL.pure rfl rfl (RanP.pickT rfl rfl) ?_
          refine RefL.nil ?_
          exact RefE.fin (s := true) ⟨rfl, rfl, rfl, rfl, rfl, trivial⟩
        · refine RefL.pure rfl rfl (RanP.move rfl) ?_
          refine RefL.pure rfl rfl (RanP.eqlNil Try.underlying27 rfl rfl) ?_
          refine RefL.pure rfl rfl (RanP.pickF rfl rfl) ?_
          refine RefL.nil ?_
          exact RefE.fin (s := (Option.isNone x4.1)) ⟨rfl, rfl, rfl, rfl, rfl, trivial⟩
      · intro x10
        refine RefL.pure rfl rfl (RanP.move rfl) ?_
        refine RefL.cut (enc := fun (x11 : Bool) => ([(46, .bool x11), (1, .slice a1.a a1.n a1.c), (2, .slice a2.a a2.n a2.c), (8, .pointer x4.1), (10, .pointer x6.1)] : Env)) 3 ?_ ?_
        · refine RefL.ite (s := 43) rfl ?_ ?_
          · refine RefL.skip rfl rfl ?_
            refine RefL.skip rfl rfl ?_
            refine RefL.pure rfl rfl (RanP.pickT rfl rfl) ?_
            refine RefL.nil ?_
            exact RefE.fin (s := true) ⟨rfl, rfl, rfl, rfl, rfl, trivial⟩
          · refine RefL.pure rfl rfl (RanP.move rfl) ?_
            refine RefL.pure rfl rfl (RanP.eqlNil Try.underlying27 rfl rfl) ?_
            refine RefL.pure rfl rfl (RanP.pickF rfl rfl) ?_
            refine RefL.nil ?_
            exact RefE.fin (s := (Option.isNone x6.1)) ⟨rfl, rfl, rfl, rfl, rfl, trivial⟩
        · intro x11
          refine RefL.pure rfl rfl (RanP.move rfl) ?_
          refine RefL.cut (enc := fun (x12 : Bool) => ([(51, .bool x12), (1, .slice a1.a a1.n a1.c), (2, .slice a2.a a2.n a2.c), (8, .pointer x4.1), (10, .pointer x6.1)] : Env)) 4 ?_ ?_
          · refine RefL.ite (s := 47) rfl ?_ ?_
            · refine RefL.skip rfl rfl ?_
              refine RefL.skip rfl rfl ?_
              refine RefL.skip rfl rfl ?_
              refine RefL.pure rfl rfl (RanP.pickT rfl rfl) ?_
              refine RefL.nil ?_
              exact RefE.fin (s := true) ⟨rfl, rfl, rfl, rfl, rfl, trivial⟩
            · refine RefL.pure rfl rfl (RanP.move rfl) ?_
              refine RefL.hv rfl rfl (Hv.call (ref10_Few_ref K a1) Try.call11 rfl rfl rfl fun x13 => ?_)
              refine RefL.pure rfl rfl (RanP.not rfl) ?_
              refine RefL.pure rfl rfl (RanP.pickF rfl rfl) ?_
              refine RefL.nil ?_
              exact RefE.fin (s := (!x13)) ⟨rfl, rfl, rfl, rfl, rfl, trivial⟩
          · intro x12
            refine RefL.pure rfl rfl (RanP.move rfl) ?_
            refine RefL.cut (enc := fun (x14 : Bool) => ([(56, .bool x14), (1, .slice a1.a a1.n a1.c), (2, .slice a2.a a2.n a2.c), (8, .pointer x4.1), (10, .pointer x6.1)] : Env)) 4 ?_ ?_
            · refine RefL.ite (s := 52) rfl ?_ ?_
              · refine RefL.skip rfl rfl ?_
                refine RefL.skip rfl rfl ?_
                refine RefL.skip rfl rfl ?_
                refine RefL.pure rfl rfl (RanP.pickT rfl rfl) ?_
                refine RefL.nil ?_
                exact RefE.fin (s := true) ⟨rfl, rfl, rfl, rfl, rfl, trivial⟩
              · refine RefL.pure rfl rfl (RanP.move rfl) ?_
                refine RefL.hv rfl rfl (Hv.call (ref10_Few_ref K a2) Try.call11 rfl rfl rfl fun x15 => ?_)
                refine RefL.pure rfl rfl (RanP.not rfl) ?_
                refine RefL.pure rfl rfl (RanP.pickF rfl rfl) ?_
                refine RefL.nil ?_
                exact RefE.fin (s := (!x15)) ⟨rfl, rfl, rfl, rfl, rfl, trivial⟩
            · intro x14
              refine RefL.nil ?_
              refine RefE.next ?_
              refine RefC.cond rfl ?_ ?_
              · refine RefC.seq ?_
                refine RefC.region ?_
                refine RefL.hv rfl rfl (Hv.call (law16_awake_ref K) Try.call10 rfl rfl rfl fun x16 => ?_)
                refine RefL.pure rfl rfl (RanP.assign rfl) ?_
                refine RefL.nil ?_
                refine RefE.next ?_
                refine RefC.ret ?_
                refine RefE.thenRet ?_
                refine RefE.retV rfl ?_
                refine RefV.tmp rfl ?_
                exact RefV.nil rfl
              · refine RefC.skip ?_
                refine RefE.next ?_
                refine RefC.seq ?_
                refine RefC.region ?_
                refine RefL.hv rfl rfl (Hv.buildSlice rfl (cs := []) (e := 47) (fun _ => by kernel_rfl) fun x17 => ?_)
                refine RefL.pure rfl rfl (RanP.assign rfl) ?_
                refine RefL.lt 12 (fun y => .string y) rfl fun x18 => ?_
                refine RefL.pure rfl rfl (RanP.assign rfl) ?_
                refine RefL.nil ?_
                refine RefE.next ?_
                refine RefC.seq ?_
                refine RefC.region ?_
                refine RefL.hv rfl rfl (Hv.buildSlice rfl (cs := []) (e := 9) (fun _ => by kernel_rfl) fun x19 => ?_)
                refine RefL.pure rfl rfl (RanP.move rfl) ?_
                refine RefL.hv rfl rfl (Hv.appS (i := Try.t9) rfl Try.underlying22 Try.underlying22 rfl rfl rfl rfl fun x20 => ?_)
                refine RefL.pure rfl rfl (RanP.move rfl) ?_
                refine RefL.hv rfl rfl (Hv.appS (i := Try.t9) rfl Try.underlying22 Try.underlying22 rfl rfl rfl rfl fun x21 => ?_)
                refine RefL.pure rfl rfl (RanP.assign rfl) ?_
                refine RefL.nil ?_
                refine RefE.next ?_
                refine RefC.seq ?_
                refine RefC.seq ?_
                refine RefC.region ?_
                refine RefL.pure rfl rfl (RanP.assign rfl) ?_
                refine RefL.nil ?_
                refine RefE.next ?_
                refine RefC.cut (enc := fun (s66 : ByteArray × Sl) => ([(12, .string s66.1), (13, .slice s66.2.a s66.2.n s66.2.c), (8, .pointer x4.1), (10, .pointer x6.1)] : Env)) ?_ ?_
                · refine RefC.block ?_
                  refine RefC.loopW (enc := fun (s55 : ByteArray × Sl × Int) => ([(12, .string s55.1), (13, .slice s55.2.1.a s55.2.1.n s55.2.1.c), (15, .int .i64 s55.2.2), (8, .pointer x4.1), (10, .pointer x6.1), (14, .slice x21.a x21.n x21.c)] : Env)) ⟨rfl, rfl, rfl, rfl, rfl, rfl, trivial⟩ ?_ _
                  intro again k ih s55
                  unfold law16_LegReads_l0
                  refine RefC.seq ?_
                  refine RefC.seq ?_
                  refine RefC.region ?_
                  refine RefL.pure rfl rfl (RanP.move rfl) ?_
                  refine RefL.pure rfl rfl (RanP.move rfl) ?_
                  refine RefL.pure rfl rfl (RanP.lenSl rfl Try.underlying22 rfl) ?_
                  refine RefL.pure rfl rfl (RanP.lss rfl rfl) ?_
                  refine RefL.nil ?_
                  refine RefE.next ?_
                  refine RefC.cond rfl ?_ ?_
                  · refine RefC.skip ?_
                    refine RefE.next ?_
                    refine RefC.seq ?_
                    refine RefC.block ?_
                    refine RefC.seq ?_
                    refine RefC.region ?_
                    refine RefL.pure rfl rfl (RanP.move rfl) ?_
                    refine RefL.pure rfl rfl (RanP.move rfl) ?_
                    refine RefL.pure rfl rfl (RanP.move rfl) ?_
                    refine RefL.li rfl rfl (Lt.ixA Try.underlying22 Try.sizeOf9 rfl rfl fun x56 => ?_)
                    refine RefL.li rfl rfl (Lt.ldS Try.isAgg9 rfl fun x57 => ?_)
                    refine RefL.chk fun h58 => ?_
                    refine RefL.pure rfl rfl (RanP.addS h58 rfl rfl) ?_
                    refine RefL.pure rfl rfl (RanP.assign rfl) ?_
                    refine RefL.lt 12 (fun y => .string y) rfl fun x59 => ?_
                    refine RefL.nil ?_
                    refine RefE.next ?_
                    refine RefC.region ?_
                    refine RefL.pure rfl rfl (RanP.move rfl) ?_
                    refine RefL.pure rfl rfl (RanP.move rfl) ?_
                    refine RefL.pure rfl rfl (RanP.move rfl) ?_
                    refine RefL.pure rfl rfl (RanP.move rfl) ?_
                    refine RefL.li rfl rfl (Lt.ixA Try.underlying22 Try.sizeOf9 rfl rfl fun x60 => ?_)
                    refine RefL.li rfl rfl (Lt.ldS Try.isAgg9 rfl fun x61 => ?_)
                    refine RefL.hv rfl rfl (Hv.bytesOf Try.underlying9 Try.underlying36 Try.underlying5 rfl fun x62 => ?_)
                    refine RefL.hv rfl rfl (Hv.call (leg_Leg_Feed_ref K x4.1 x62) Try.call12 rfl rfl rfl fun x63 => ?_)
                    refine RefL.hv rfl rfl (Hv.appS (i := Try.t47) rfl Try.underlying34 Try.underlying34 rfl rfl rfl rfl fun x64 => ?_)
                    refine RefL.pure rfl rfl (RanP.assign rfl) ?_
                    refine RefL.nil ?_
                    refine RefE.blockNormal ?_
                    refine RefE.next ?_
                    refine RefC.region ?_
                    refine RefL.pure rfl rfl (RanP.move rfl) ?_
                    refine RefL.pure rfl rfl (RanP.add rfl rfl) ?_
                    refine RefL.pure rfl rfl (RanP.assign rfl) ?_
                    refine RefL.lt 15 (fun y => .int .i64 y) rfl fun x65 => ?_
                    refine RefL.nil ?_
                    exact RefE.again (ih (x59, x64, x65)) ⟨rfl, rfl, rfl, rfl, rfl, rfl, trivial⟩
                  · refine RefC.exit ?_
                    refine RefE.thenExit ?_
                    refine RefE.roundExit ?_
                    refine RefE.blockExit ?_
                    exact RefE.fin (s := (s55.1, s55.2.1)) ⟨rfl, rfl, rfl, rfl, trivial⟩
                · intro s66
                  refine RefE.next ?_
                  refine RefC.seq ?_
                  refine RefC.region ?_
                  refine RefL.pure rfl rfl (RanP.move rfl) ?_
                  refine RefL.pure rfl rfl (RanP.move rfl) ?_
                  refine RefL.pure rfl rfl (RanP.move rfl) ?_
                  refine RefL.hv rfl rfl (Hv.bytesOf Try.underlying9 Try.underlying36 Try.underlying5 rfl fun x67 => ?_)
                  refine RefL.hv rfl rfl (Hv.call (leg_Leg_Feed_ref K x6.1 x67) Try.call12 rfl rfl rfl fun x68 => ?_)
                  refine RefL.hv rfl rfl (Hv.call (ref12_Same_ref K s66.2 x68) Try.call13 rfl rfl rfl fun x69 => ?_)
                  refine RefL.pure rfl rfl (RanP.move rfl) ?_
                  refine RefL.cut (enc := fun (x70 : Bool) => ([(97, .bool x70), (8, .pointer x4.1), (10, .pointer x6.1)] : Env)) 6 ?_ ?_
                  · refine RefL.ite (s := 91) rfl ?_ ?_
                    · refine RefL.pure rfl rfl (RanP.move rfl) ?_
                      refine RefL.hv rfl rfl (Hv.call (leg_Leg_Wrong_ref K x4.1) Try.call14 rfl rfl rfl fun x71 => ?_)
                      refine RefL.pure rfl rfl (RanP.move rfl) ?_
                      refine RefL.hv rfl rfl (Hv.call (leg_Leg_Wrong_ref K x6.1) Try.call14 rfl rfl rfl fun x72 => ?_)
                      refine RefL.pure rfl rfl (RanP.eql rfl rfl) ?_
                      refine RefL.pure rfl rfl (RanP.pickT rfl rfl) ?_
                      refine RefL.nil ?_
                      exact RefE.fin (s := (x71 == x72)) ⟨rfl, rfl, rfl, trivial⟩
                    · refine RefL.skip rfl rfl ?_
                      refine RefL.skip rfl rfl ?_
                      refine RefL.skip rfl rfl ?_
                      refine RefL.skip rfl rfl ?_
                      refine RefL.skip rfl rfl ?_
                      refine RefL.pure rfl rfl (RanP.pickF rfl rfl) ?_
                      refine RefL.nil ?_
                      exact RefE.fin (s := false) ⟨rfl, rfl, rfl, trivial⟩
                  · intro x70
                    refine RefL.pure rfl rfl (RanP.move rfl) ?_
                    refine RefL.cut (enc := fun (x73 : Bool) => ([(104, .bool x73), (8, .pointer x4.1), (10, .pointer x6.1)] : Env)) 6 ?_ ?_
                    · refine RefL.ite (s := 98) rfl ?_ ?_
                      · refine RefL.pure rfl rfl (RanP.move rfl) ?_
                        refine RefL.hv rfl rfl (Hv.call (leg_Leg_Got_ref K x4.1) Try.call15 rfl rfl rfl fun x74 => ?_)
                        refine RefL.pure rfl rfl (RanP.move rfl) ?_
                        refine RefL.hv rfl rfl (Hv.call (leg_Leg_Got_ref K x6.1) Try.call15 rfl rfl rfl fun x75 => ?_)
                        refine RefL.pure rfl rfl (RanP.eqlB Try.underlying4 rfl rfl) ?_
                        refine RefL.pure rfl rfl (RanP.pickT rfl rfl) ?_
                        refine RefL.nil ?_
                        exact RefE.fin (s := (x74 == x75)) ⟨rfl, rfl, rfl, trivial⟩
                      · refine RefL.skip rfl rfl ?_
                        refine RefL.skip rfl rfl ?_
                        refine RefL.skip rfl rfl ?_
                        refine RefL.skip rfl rfl ?_
                        refine RefL.skip rfl rfl ?_
                        refine RefL.pure rfl rfl (RanP.pickF rfl rfl) ?_
                        refine RefL.nil ?_
                        exact RefE.fin (s := false) ⟨rfl, rfl, rfl, trivial⟩
                    · intro x73
                      refine RefL.pure rfl rfl (RanP.move rfl) ?_
                      refine RefL.cut (enc := fun (x76 : Bool) => ([(111, .bool x76)] : Env)) 6 ?_ ?_
                      · refine RefL.ite (s := 105) rfl ?_ ?_
                        · refine RefL.pure rfl rfl (RanP.move rfl) ?_
                          refine RefL.hv rfl rfl (Hv.call (leg_Leg_Sent_ref K x4.1) Try.call16 rfl rfl rfl fun x77 => ?_)
                          refine RefL.pure rfl rfl (RanP.move rfl) ?_
                          refine RefL.hv rfl rfl (Hv.call (leg_Leg_Sent_ref K x6.1) Try.call16 rfl rfl rfl fun x78 => ?_)
                          refine RefL.pure rfl rfl (RanP.eqlB Try.underlying4 rfl rfl) ?_
                          refine RefL.pure rfl rfl (RanP.pickT rfl rfl) ?_
                          refine RefL.nil ?_
                          exact RefE.fin (s := (x77 == x78)) ⟨rfl, trivial⟩
                        · refine RefL.skip rfl rfl ?_
                          refine RefL.skip rfl rfl ?_
                          refine RefL.skip rfl rfl ?_
                          refine RefL.skip rfl rfl ?_
                          refine RefL.skip rfl rfl ?_
                          refine RefL.pure rfl rfl (RanP.pickF rfl rfl) ?_
                          refine RefL.nil ?_
                          exact RefE.fin (s := false) ⟨rfl, trivial⟩
                      · intro x76
                        refine RefL.pure rfl rfl (RanP.assign rfl) ?_
                        refine RefL.nil ?_
                        refine RefE.next ?_
                        refine RefC.ret ?_
                        refine RefE.retV rfl ?_
                        refine RefV.tmp rfl ?_
                        exact RefV.nil rfl

def law16_few (K : Nat) (a0 : Tref16_Act) : G (Bool) :=
  new (Agg.cells a0) 43 fun x1 =>
  ldS (x1.add 4) fun x2 =>
  lt (decide ((x2.size : Int) ≤ (300 : Int))) fun x3 =>
  ret x3
set_option maxRecDepth 100000 in
theorem law16_few_ref (K : Nat) (a0 : Tref16_Act) : Does Try.prog 17 [.agg (Agg.cells a0).toArray] (law16_few K a0) (fun r => .bool r) := by
  refine Does.of Try.func17 rfl rfl rfl ?_
  unfold law16_few
  refine RefC.seq ?_
  refine RefC.region ?_
  refine RefL.hv rfl rfl (Hv.box rfl rfl fun x1 => ?_)
  refine RefL.pure rfl rfl (RanP.assign rfl) ?_
  refine RefL.nil ?_
  refine RefE.next ?_
  refine RefC.seq ?_
  refine RefC.region ?_
  refine RefL.pure rfl rfl (RanP.fieldAddr fa_43_4 rfl) ?_
  refine RefL.li rfl rfl (Lt.ldS Try.isAgg9 rfl fun x2 => ?_)
  refine RefL.pure rfl rfl (RanP.lenS rfl Try.underlying9 rfl) ?_
  refine RefL.pure rfl rfl (RanP.leq rfl rfl) ?_
  refine RefL.pure rfl rfl (RanP.assign rfl) ?_
  refine RefL.lt 2 (fun y => .bool y) rfl fun x3 => ?_
  refine RefL.nil ?_
  refine RefE.next ?_
  refine RefC.ret ?_
  refine RefE.retV rfl ?_
  refine RefV.tmp rfl ?_
  exact RefV.nil rfl

def law16_LegBound_l0 (K : Nat) (a3 : Sl) (x8 : Option Addr × Int) (x6 : Addr) (again : Int → G (Unit ⊕ Bool)) (s201 : Int) : G (Unit ⊕ Bool) :=
  bnd (
    if (decide (s201 < (a3.n : Int))) = true then
      ret (decide (s201 < (40 : Int)))
    else
      ret false) fun (x202 : Bool) =>
  if x202 = true then
    ixA a3 s201 5 fun x203 =>
    ldG (α := Tref16_Act) x203 fun x204 =>
    new [.int .i64 (0 : Int), .int .i64 (0 : Int), .int .i64 (0 : Int), .int .i64 (0 : Int), .string (ByteArray.mk #[])] 43 fun x205 =>
    st x205 (.agg (Agg.cells x204).toArray) <|
    ldG (α := Tref16_Act) x205 fun x206 =>
    bnd (law16_few K x206) fun x207 =>
    if (!x207) = true then
      lt (IntKind.wrap .i64 (s201 + (1 : Int))) fun x208 =>
      again (x208)
    else
      ldI .i64 (x205.add 0) fun x209 =>
      lt (x209 == (0 : Int)) fun x210 =>
      bnd (
        if x210 = true then
          ldS (x205.add 4) fun x228 =>
          bytesOf 5 x228 fun x229 =>
          bnd (leg_Leg_Feed K x8.1 x229) fun x230 =>
          ret ()
        else
          lt (x209 == (1 : Int)) fun x231 =>
          if x231 = true then
            ldI .i64 (x205.add 1) fun x232 =>
            ldS (x205.add 4) fun x233 =>
            bnd (leg_Leg_Send K x8.1 (Tapi_Event.mk x232 (0 : Int) x233)) fun x234 =>
            ret ()
          else
            lt (x209 == (2 : Int)) fun x235 =>
            if x235 = true then
              ldS (x205.add 4) fun x236 =>
              bnd (leg_Leg_Ping K x8.1 x236) fun x237 =>
              ret ()
            else
              lt (x209 == (3 : Int)) fun x238 =>
              if x238 = true then
                ldI .i64 (x205.add 2) fun x239 =>
                ldS (x205.add 4) fun x240 =>
                bnd (leg_Leg_Close K x8.1 x239 x240) fun x241 =>
                ret ()
              else
                lt (x209 == (4 : Int)) fun x242 =>
                if x242 = true then
                  ldI .i64 (x205.add 3) fun x243 =>
                  bnd (leg_Leg_Take K x8.1 x243) fun x244 =>
                  ret ()
                else
                  ret ()) fun (s245 : Unit) =>
      bnd (
        drw <|
        wld fun w255 =>
        ldI .i64 (x6.add 7) fun x254 =>
        bnd (leg_Leg_Peek K x8.1 (70000 : Int)) fun x256 =>
        agr (like (x6.add 7) 1 w255) <|
        if (decide (x254 < (x256.n : Int))) = true then
          ret (true)
        else
          wld fun w258 =>
          ldI .i64 (x6.add 3) fun x257 =>
          wld fun w260 =>
          ldI .i64 (x6.add 3) fun x259 =>
          bnd (leg_Leg_Kept K x8.1) fun x261 =>
          agr (like (x6.add 3) 1 w258) <|
          agr (like (x6.add 3) 1 w260) <|
          ret ((decide ((IntKind.wrap .i64 ((IntKind.wrap .i64 (x257 + (if x259 < (125 : Int) then (125 : Int) else x259))) + (14 : Int))) < x261)))) fun (s262 : Bool) =>
      if s262 = true then
        inr (ret false)
      else
        lt (IntKind.wrap .i64 (s201 + (1 : Int))) fun x263 =>
        again (x263)
  else
    ret (.inl ())
def law16_LegBound (K : Nat) (a0 : A3u8) (a1 : Bool) (a2 : Int) (a3 : Sl) : G (Bool) :=
  new (Agg.cells a0) 40 fun x1 =>
  ldI .u8 (x1.add ((0 : Int).toNat * 1)) fun x2 =>
  ldI .u8 (x1.add ((1 : Int).toNat * 1)) fun x3 =>
  ldI .u8 (x1.add ((2 : Int).toNat * 1)) fun x4 =>
  bnd (law16_Config K x2 x3 x4) fun x5 =>
  new [.slice Sl.nil.a Sl.nil.n Sl.nil.c, .slice Sl.nil.a Sl.nil.n Sl.nil.c, .int .i64 (0 : Int), .int .i64 (0 : Int), .int .i64 (0 : Int), .int .i64 (0 : Int), .int .i64 (0 : Int), .int .i64 (0 : Int), .int .i64 (0 : Int), .int .i64 (0 : Int), .int .i64 (0 : Int), .int .i64 (0 : Int)] 25 fun x6 =>
  st x6 (.agg (Agg.cells x5).toArray) <|
  ldG (α := Tapi_Config) x6 fun x7 =>
  bnd (leg_New K x7 a1 a2) fun x8 =>
  bnd (law16_awake K) fun x9 =>
  bnd (
    if (!x9) = true then
      ret true
    else
      ret (x8.2 != (0 : Int))) fun (x10 : Bool) =>
  bnd (
    if x10 = true then
      ret true
    else
      ret (Option.isNone x8.1)) fun (x11 : Bool) =>
  if x11 = true then
    ret false
  else
    bnd (
      loopG (law16_LegBound_l0 K a3 x8 x6) K ((0 : Int))) (sumK fun (s264 : Unit) =>
    ret true)
set_option maxRecDepth 100000 in
theorem law16_LegBound_ref (K : Nat) (a0 : A3u8) (a1 : Bool) (a2 : Int) (a3 : Sl) : Does Try.prog 4 [.agg (Agg.cells a0).toArray, .bool a1, .int .u32 a2, .slice a3.a a3.n a3.c] (law16_LegBound K a0 a1 a2 a3) (fun r => .bool r) := by
  refine Does.of Try.func4 rfl rfl rfl ?_
  unfold law16_LegBound
  refine RefC.seq ?_
  refine RefC.region ?_
  refine RefL.hv rfl rfl (Hv.box rfl rfl fun x1 => ?_)
  refine RefL.pure rfl rfl (RanP.assign rfl) ?_
  refine RefL.nil ?_
  refine RefE.next ?_
  refine RefC.seq ?_
  refine RefC.region ?_
  refine RefL.pure rfl rfl (RanP.ixArr (len := 3) (by decide) Try.underlying40 Try.sizeOf5 rfl rfl) ?_
  refine RefL.li rfl rfl (Lt.ldI Try.isAgg5 rfl fun x2 => ?_)
  refine RefL.pure rfl rfl (RanP.ixArr (len := 3) (by decide) Try.underlying40 Try.sizeOf5 rfl rfl) ?_
  refine RefL.li rfl rfl (Lt.ldI Try.isAgg5 rfl fun x3 => ?_)
  refine RefL.pure rfl rfl (RanP.ixArr (len := 3) (by decide) Try.underlying40 Try.sizeOf5 rfl rfl) ?_
  refine RefL.li rfl rfl (Lt.ldI Try.isAgg5 rfl fun x4 => ?_)
  refine RefL.hv rfl rfl (Hv.call (law16_Config_ref K x2 x3 x4) Try.call8 rfl rfl rfl fun x5 => ?_)
  refine RefL.hv rfl rfl (Hv.newZ Try.zeroValue25 rfl fun x6 => ?_)
  refine RefL.hv rfl rfl (Hv.st Try.sizeOf25 rfl rfl rfl ?_)
  refine RefL.nil ?_
  refine RefE.next ?_
  refine RefC.seq ?_
  refine RefC.region ?_
  refine RefL.li rfl rfl (Lt.ldG (τ := Tapi_Config) Try.isAgg25 Try.sizeOf25 rfl fun x7 => ?_)
  refine RefL.pure rfl rfl (RanP.move rfl) ?_
  refine RefL.pure rfl rfl (RanP.move rfl) ?_
  refine RefL.hv rfl rfl (Hv.call (leg_New_ref K x7 a1 a2) Try.call9 rfl rfl rfl fun x8 => ?_)
  refine RefL.pure rfl rfl (RanP.move rfl) ?_
  refine RefL.pure rfl rfl (RanP.extract rfl rfl) ?_
  refine RefL.pure rfl rfl (RanP.extract rfl rfl) ?_
  refine RefL.pure rfl rfl (RanP.assign rfl) ?_
  refine RefL.pure rfl rfl (RanP.assign rfl) ?_
  refine RefL.nil ?_
  refine RefE.next ?_
  refine RefC.seq ?_
  refine RefC.seq ?_
  refine RefC.region ?_
  refine RefL.hv rfl rfl (Hv.call (law16_awake_ref K) Try.call10 rfl rfl rfl fun x9 => ?_)
  refine RefL.pure rfl rfl (RanP.not rfl) ?_
  refine RefL.pure rfl rfl (RanP.move rfl) ?_
  refine RefL.cut (enc := fun (x10 : Bool) => ([(33, .bool x10), (3, .slice a3.a a3.n a3.c), (9, .pointer (some x6)), (10, .pointer x8.1)] : Env)) 3 ?_ ?_
  · refine RefL.ite (s := 30) rfl ?_ ?_
    · refine RefL.skip rfl rfl ?_
      refine RefL.skip rfl rfl ?_
      refine RefL.pure rfl rfl (RanP.pickT rfl rfl) ?_
      refine RefL.nil ?_
      exact RefE.fin (s := true) ⟨rfl, rfl, rfl, rfl, trivial⟩
    · refine RefL.pure rfl rfl (RanP.move rfl) ?_
      refine RefL.pure rfl rfl (RanP.neq rfl rfl) ?_
      refine RefL.pure rfl rfl (RanP.pickF rfl rfl) ?_
      refine RefL.nil ?_
      exact RefE.fin (s := (x8.2 != (0 : Int))) ⟨rfl, rfl, rfl, rfl, trivial⟩
  · intro x10
    refine RefL.pure rfl rfl (RanP.move rfl) ?_
    refine RefL.cut (enc := fun (x11 : Bool) => ([(37, .bool x11), (3, .slice a3.a a3.n a3.c), (9, .pointer (some x6)), (10, .pointer x8.1)] : Env)) 3 ?_ ?_
    · refine RefL.ite (s := 34) rfl ?_ ?_
      · refine RefL.skip rfl rfl ?_
        refine RefL.skip rfl rfl ?_
        refine RefL.pure rfl rfl (RanP.pickT rfl rfl) ?_
        refine RefL.nil ?_
        exact RefE.fin (s := true) ⟨rfl, rfl, rfl, rfl, trivial⟩
      · refine RefL.pure rfl rfl (RanP.move rfl) ?_
        refine RefL.pure rfl rfl (RanP.eqlNil Try.underlying27 rfl rfl) ?_
        refine RefL.pure rfl rfl (RanP.pickF rfl rfl) ?_
        refine RefL.nil ?_
        exact RefE.fin (s := (Option.isNone x8.1)) ⟨rfl, rfl, rfl, rfl, trivial⟩
    · intro x11
      refine RefL.nil ?_
      refine RefE.next ?_
      refine RefC.cond rfl ?_ ?_
      · refine RefC.seq ?_
        refine RefC.region ?_
        refine RefL.pure rfl rfl (RanP.assign rfl) ?_
        refine RefL.nil ?_
        refine RefE.next ?_
        refine RefC.ret ?_
        refine RefE.thenRet ?_
        refine RefE.retV rfl ?_
        refine RefV.tmp rfl ?_
        exact RefV.nil rfl
      · refine RefC.skip ?_
        refine RefE.next ?_
        refine RefC.seq ?_
        refine RefC.seq ?_
        refine RefC.region ?_
        refine RefL.pure rfl rfl (RanP.assign rfl) ?_
        refine RefL.nil ?_
        refine RefE.next ?_
        refine RefC.cutSum (enc := fun (s264 : Unit) => ([] : Env)) (KThen.mono KRet.mono) ?_ ?_
        · refine RefC.block ?_
          refine RefC.loopW (enc := fun (s201 : Int) => ([(12, .int .i64 s201), (3, .slice a3.a a3.n a3.c), (9, .pointer (some x6)), (10, .pointer x8.1)] : Env)) ⟨rfl, rfl, rfl, rfl, trivial⟩ ?_ _
          intro again k ih s201
          unfold law16_LegBound_l0
          refine RefC.seq ?_
          refine RefC.seq ?_
          refine RefC.region ?_
          refine RefL.pure rfl rfl (RanP.move rfl) ?_
          refine RefL.pure rfl rfl (RanP.move rfl) ?_
          refine RefL.pure rfl rfl (RanP.lenSl rfl Try.underlying41 rfl) ?_
          refine RefL.pure rfl rfl (RanP.lss rfl rfl) ?_
          refine RefL.pure rfl rfl (RanP.move rfl) ?_
          refine RefL.cut (enc := fun (x202 : Bool) => ([(45, .bool x202), (3, .slice a3.a a3.n a3.c), (9, .pointer (some x6)), (10, .pointer x8.1), (12, .int .i64 s201)] : Env)) 3 ?_ ?_
          · refine RefL.ite (s := 42) rfl ?_ ?_
            · refine RefL.pure rfl rfl (RanP.move rfl) ?_
              refine RefL.pure rfl rfl (RanP.lss rfl rfl) ?_
              refine RefL.pure rfl rfl (RanP.pickT rfl rfl) ?_
              refine RefL.nil ?_
              exact RefE.fin (s := (decide (s201 < (40 : Int)))) ⟨rfl, rfl, rfl, rfl, rfl, trivial⟩
            · refine RefL.skip rfl rfl ?_
              refine RefL.skip rfl rfl ?_
              refine RefL.pure rfl rfl (RanP.pickF rfl rfl) ?_
              refine RefL.nil ?_
              exact RefE.fin (s := false) ⟨rfl, rfl, rfl, rfl, rfl, trivial⟩
          · intro x202
            refine RefL.nil ?_
            refine RefE.next ?_
            refine RefC.cond rfl ?_ ?_
            · refine RefC.skip ?_
              refine RefE.next ?_
              refine RefC.seq ?_
              refine RefC.block ?_
              refine RefC.seq ?_
              refine RefC.region ?_
              refine RefL.pure rfl rfl (RanP.move rfl) ?_
              refine RefL.pure rfl rfl (RanP.move rfl) ?_
              refine RefL.li rfl rfl (Lt.ixA Try.underlying41 Try.sizeOf43 rfl rfl fun x203 => ?_)
              refine RefL.li rfl rfl (Lt.ldG (τ := Tref16_Act) Try.isAgg43 Try.sizeOf43 rfl fun x204 => ?_)
              refine RefL.hv rfl rfl (Hv.newZ Try.zeroValue43 rfl fun x205 => ?_)
              refine RefL.hv rfl rfl (Hv.st Try.sizeOf43 rfl rfl rfl ?_)
              refine RefL.nil ?_
              refine RefE.next ?_
              refine RefC.seq ?_
              refine RefC.seq ?_
              refine RefC.region ?_
              refine RefL.li rfl rfl (Lt.ldG (τ := Tref16_Act) Try.isAgg43 Try.sizeOf43 rfl fun x206 => ?_)
              refine RefL.hv rfl rfl (Hv.call (law16_few_ref K x206) Try.call17 rfl rfl rfl fun x207 => ?_)
              refine RefL.pure rfl rfl (RanP.not rfl) ?_
              refine RefL.nil ?_
              refine RefE.next ?_
              refine RefC.cond rfl ?_ ?_
              · refine RefC.exit ?_
                refine RefE.thenExit ?_
                refine RefE.blockExit ?_
                refine RefE.next ?_
                refine RefC.region ?_
                refine RefL.pure rfl rfl (RanP.move rfl) ?_
                refine RefL.pure rfl rfl (RanP.add rfl rfl) ?_
                refine RefL.pure rfl rfl (RanP.assign rfl) ?_
                refine RefL.lt 12 (fun y => .int .i64 y) rfl fun x208 => ?_
                refine RefL.nil ?_
                exact RefE.again (ih (x208)) ⟨rfl, rfl, rfl, rfl, trivial⟩
              · refine RefC.skip ?_
                refine RefE.next ?_
                refine RefC.seq ?_
                refine RefC.seq ?_
                refine RefC.region ?_
                refine RefL.pure rfl rfl (RanP.fieldAddr fa_43_0 rfl) ?_
                refine RefL.li rfl rfl (Lt.ldI Try.isAgg3 rfl fun x209 => ?_)
                refine RefL.nil ?_
                refine RefE.next ?_
                refine RefC.block ?_
                refine RefC.seq ?_
                refine RefC.region ?_
                refine RefL.pure rfl rfl (RanP.eql rfl rfl) ?_
                refine RefL.pure rfl rfl (RanP.assign rfl) ?_
                refine RefL.lt 57 (fun y => .bool y) rfl fun x210 => ?_
                refine RefL.nil ?_
                refine RefE.next ?_
                refine RefC.cut (enc := fun (s245 : Unit) => ([(3, .slice a3.a a3.n a3.c), (9, .pointer (some x6)), (10, .pointer x8.1), (12, .int .i64 s201)] : Env)) ?_ ?_
                · refine RefC.cond rfl ?_ ?_
                  · refine RefC.region ?_
                    refine RefL.pure rfl rfl (RanP.move rfl) ?_
                    refine RefL.pure rfl rfl (RanP.fieldAddr fa_43_4 rfl) ?_
                    refine RefL.li rfl rfl (Lt.ldS Try.isAgg9 rfl fun x228 => ?_)
                    refine RefL.hv rfl rfl (Hv.bytesOf Try.underlying9 Try.underlying36 Try.underlying5 rfl fun x229 => ?_)
                    refine RefL.hv rfl rfl (Hv.call (leg_Leg_Feed_ref K x8.1 x229) Try.call12 rfl rfl rfl fun x230 => ?_)
                    refine RefL.nil ?_
                    exact RefE.fin (s := ()) ⟨rfl, rfl, rfl, rfl, trivial⟩
                  · refine RefC.seq ?_
                    refine RefC.region ?_
                    refine RefL.pure rfl rfl (RanP.eql rfl rfl) ?_
                    refine RefL.pure rfl rfl (RanP.assign rfl) ?_
                    refine RefL.lt 64 (fun y => .bool y) rfl fun x231 => ?_
                    refine RefL.nil ?_
                    refine RefE.next ?_
                    refine RefC.cond rfl ?_ ?_
                    · refine RefC.region ?_
                      refine RefL.pure rfl rfl (RanP.move rfl) ?_
                      refine RefL.pure rfl rfl (RanP.fieldAddr fa_43_1 rfl) ?_
                      refine RefL.li rfl rfl (Lt.ldI Try.isAgg3 rfl fun x232 => ?_)
                      refine RefL.pure rfl rfl (RanP.fieldAddr fa_43_4 rfl) ?_
                      refine RefL.li rfl rfl (Lt.ldS Try.isAgg9 rfl fun x233 => ?_)
                      refine RefL.pure rfl rfl (RanP.build rfl (v := .agg (Agg.cells (Tapi_Event.mk x232 (0 : Int) x233)).toArray) (fun _ => by kernel_rfl)) ?_
                      refine RefL.hv rfl rfl (Hv.call (leg_Leg_Send_ref K x8.1 (Tapi_Event.mk x232 (0 : Int) x233)) Try.call18 rfl rfl rfl fun x234 => ?_)
                      refine RefL.nil ?_
                      exact RefE.fin (s := ()) ⟨rfl, rfl, rfl, rfl, trivial⟩
                    · refine RefC.seq ?_
                      refine RefC.region ?_
                      refine RefL.pure rfl rfl (RanP.eql rfl rfl) ?_
                      refine RefL.pure rfl rfl (RanP.assign rfl) ?_
                      refine RefL.lt 73 (fun y => .bool y) rfl fun x235 => ?_
                      refine RefL.nil ?_
                      refine RefE.next ?_
                      refine RefC.cond rfl ?_ ?_
                      · refine RefC.region ?_
                        refine RefL.pure rfl rfl (RanP.move rfl) ?_
                        refine RefL.pure rfl rfl (RanP.fieldAddr fa_43_4 rfl) ?_
                        refine RefL.li rfl rfl (Lt.ldS Try.isAgg9 rfl fun x236 => ?_)
                        refine RefL.hv rfl rfl (Hv.call (leg_Leg_Ping_ref K x8.1 x236) Try.call19 rfl rfl rfl fun x237 => ?_)
                        refine RefL.nil ?_
                        exact RefE.fin (s := ()) ⟨rfl, rfl, rfl, rfl, trivial⟩
                      · refine RefC.seq ?_
                        refine RefC.region ?_
                        refine RefL.pure rfl rfl (RanP.eql rfl rfl) ?_
                        refine RefL.pure rfl rfl (RanP.assign rfl) ?_
                        refine RefL.lt 79 (fun y => .bool y) rfl fun x238 => ?_
                        refine RefL.nil ?_
                        refine RefE.next ?_
                        refine RefC.cond rfl ?_ ?_
                        · refine RefC.region ?_
                          refine RefL.pure rfl rfl (RanP.move rfl) ?_
                          refine RefL.pure rfl rfl (RanP.fieldAddr fa_43_2 rfl) ?_
                          refine RefL.li rfl rfl (Lt.ldI Try.isAgg3 rfl fun x239 => ?_)
                          refine RefL.pure rfl rfl (RanP.fieldAddr fa_43_4 rfl) ?_
                          refine RefL.li rfl rfl (Lt.ldS Try.isAgg9 rfl fun x240 => ?_)
                          refine RefL.hv rfl rfl (Hv.call (leg_Leg_Close_ref K x8.1 x239 x240) Try.call20 rfl rfl rfl fun x241 => ?_)
                          refine RefL.nil ?_
                          exact RefE.fin (s := ()) ⟨rfl, rfl, rfl, rfl, trivial⟩
                        · refine RefC.seq ?_
                          refine RefC.region ?_
                          refine RefL.pure rfl rfl (RanP.eql rfl rfl) ?_
                          refine RefL.pure rfl rfl (RanP.assign rfl) ?_
                          refine RefL.lt 87 (fun y => .bool y) rfl fun x242 => ?_
                          refine RefL.nil ?_
                          refine RefE.next ?_
                          refine RefC.cond rfl ?_ ?_
                          · refine RefC.region ?_
                            refine RefL.pure rfl rfl (RanP.move rfl) ?_
                            refine RefL.pure rfl rfl (RanP.fieldAddr fa_43_3 rfl) ?_
                            refine RefL.li rfl rfl (Lt.ldI Try.isAgg3 rfl fun x243 => ?_)
                            refine RefL.hv rfl rfl (Hv.call (leg_Leg_Take_ref K x8.1 x243) Try.call21 rfl rfl rfl fun x244 => ?_)
                            refine RefL.nil ?_
                            exact RefE.fin (s := ()) ⟨rfl, rfl, rfl, rfl, trivial⟩
                          · refine RefC.skip ?_
                            exact RefE.fin (s := ()) ⟨rfl, rfl, rfl, rfl, trivial⟩
                · intro s245
                  refine RefE.blockNormal ?_
                  refine RefE.next ?_
                  refine RefC.seq ?_
                  refine RefC.cut (enc := fun (s262 : Bool) => ([(110, .bool s262), (3, .slice a3.a a3.n a3.c), (9, .pointer (some x6)), (10, .pointer x8.1), (12, .int .i64 s201)] : Env)) ?_ ?_
                  · refine RefC.draw mixed [0, 1, 3, 0, 8, 31, 63, 127, 255, 127, 639, 127, 2175, 6271, 15999, 32383, 65535, 131071] [.lp 0, .lp 3, .li 4, .hv 1, .re 4, .lp 2, .lp 5, .lp 6, .lp 7, .lp 9, .li 10, .lp 11, .li 12, .lp 13, .lp 14, .lp 15, .hv 8, .re 10, .re 12, .lp 16, .lp 17] (by kernel_rfl) ?_
                    refine RefD.pure (at_ rfl) rfl (RanP.move rfl) ?_
                    refine RefD.pure (at_ rfl) rfl (RanP.fieldAddr fa_25_7 rfl) ?_
                    refine RefD.li (at_ rfl) rfl fun w255 => (Lt.ldI Try.isAgg3 rfl fun x254 => ?_)
                    refine RefD.hv (at_ rfl) rfl (Hv.call (leg_Leg_Peek_ref K x8.1 (70000 : Int)) Try.call22 rfl rfl rfl fun x256 => ?_)
                    refine RefD.re rfl ?_
                    refine RefD.pure (at_ rfl) rfl (RanP.lenSl rfl Try.underlying36 rfl) ?_
                    refine RefD.pure (at_ rfl) rfl (RanP.gtr rfl rfl) ?_
                    refine RefD.pure (at_ rfl) rfl (RanP.move rfl) ?_
                    refine RefD.ite (s := 99) rfl ?_ ?_
                    · refine RefD.skipP (at_ rfl) rfl ?_
                      refine RefD.skipP (at_ rfl) rfl ?_
                      refine RefD.skipI (at_ rfl) rfl ?_
                      refine RefD.skipP (at_ rfl) rfl ?_
                      refine RefD.skipI (at_ rfl) rfl ?_
                      refine RefD.skipP (at_ rfl) rfl ?_
                      refine RefD.skipP (at_ rfl) rfl ?_
                      refine RefD.skipP (at_ rfl) rfl ?_
                      refine RefD.skipH (at_ rfl) rfl ?_
                      refine RefD.re0 rfl ?_
                      refine RefD.re0 rfl ?_
                      refine RefD.skipP (at_ rfl) rfl ?_
                      refine RefD.pure (at_ rfl) rfl (RanP.pickT rfl rfl) ?_
                      refine RefD.nil ?_
                      exact RefE.fin (s := (true)) ⟨rfl, rfl, rfl, rfl, rfl, trivial⟩
                    · refine RefD.pure (at_ rfl) rfl (RanP.move rfl) ?_
                      refine RefD.pure (at_ rfl) rfl (RanP.fieldAddr fa_25_3 rfl) ?_
                      refine RefD.li (at_ rfl) rfl fun w258 => (Lt.ldI Try.isAgg3 rfl fun x257 => ?_)
                      refine RefD.pure (at_ rfl) rfl (RanP.fieldAddr fa_25_3 rfl) ?_
                      refine RefD.li (at_ rfl) rfl fun w260 => (Lt.ldI Try.isAgg3 rfl fun x259 => ?_)
                      refine RefD.pure (at_ rfl) rfl (RanP.max2 rfl) ?_
                      refine RefD.pure (at_ rfl) rfl (RanP.add rfl rfl) ?_
                      refine RefD.pure (at_ rfl) rfl (RanP.add rfl rfl) ?_
                      refine RefD.hv (at_ rfl) rfl (Hv.call (leg_Leg_Kept_ref K x8.1) Try.call23 rfl rfl rfl fun x261 => ?_)
                      refine RefD.re rfl ?_
                      refine RefD.re rfl ?_
                      refine RefD.pure (at_ rfl) rfl (RanP.gtr rfl rfl) ?_
                      refine RefD.pure (at_ rfl) rfl (RanP.pickF rfl rfl) ?_
                      refine RefD.nil ?_
                      exact RefE.fin (s := ((decide ((IntKind.wrap .i64 ((IntKind.wrap .i64 (x257 + (if x259 < (125 : Int) then (125 : Int) else x259))) + (14 : Int))) < x261)))) ⟨rfl, rfl, rfl, rfl, rfl, trivial⟩
                  · intro s262
                    refine RefE.next ?_
                    refine RefC.cond rfl ?_ ?_
                    · refine RefC.seq ?_
                      refine RefC.region ?_
                      refine RefL.pure rfl rfl (RanP.assign rfl) ?_
                      refine RefL.nil ?_
                      refine RefE.next ?_
                      refine RefC.ret ?_
                      refine RefE.blockRet ?_
                      refine RefE.thenRet ?_
                      refine RefE.roundRet ?_
                      refine RefE.blockRet ?_
                      refine RefE.finR ?_
                      refine RefE.thenRet ?_
                      refine RefE.retV rfl ?_
                      refine RefV.tmp rfl ?_
                      exact RefV.nil rfl
                    · refine RefC.skip ?_
                      refine RefE.blockNormal ?_
                      refine RefE.next ?_
                      refine RefC.region ?_
                      refine RefL.pure rfl rfl (RanP.move rfl) ?_
                      refine RefL.pure rfl rfl (RanP.add rfl rfl) ?_
                      refine RefL.pure rfl rfl (RanP.assign rfl) ?_
                      refine RefL.lt 12 (fun y => .int .i64 y) rfl fun x263 => ?_
                      refine RefL.nil ?_
                      exact RefE.again (ih (x263)) ⟨rfl, rfl, rfl, rfl, trivial⟩
            · refine RefC.exit ?_
              refine RefE.thenExit ?_
              refine RefE.roundExit ?_
              refine RefE.blockExit ?_
              exact RefE.finL (s := ()) trivial
        · intro s264
          refine RefE.next ?_
          refine RefC.seq ?_
          refine RefC.region ?_
          refine RefL.pure rfl rfl (RanP.assign rfl) ?_
          refine RefL.nil ?_
          refine RefE.next ?_
          refine RefC.ret ?_
          refine RefE.retV rfl ?_
          refine RefV.tmp rfl ?_
          exact RefV.nil rfl

def law16_LegBoth_l0 (K : Nat) (x8 : Option Addr × Int) (a3 : Int) (x10 : Option Addr × Int) (x207 : Sl) (again : (Sl × Int) → G ((Sl × Sl) ⊕ ((Sl × Sl) ⊕ Bool))) (s215 : Sl × Int) : G ((Sl × Sl) ⊕ ((Sl × Sl) ⊕ Bool)) :=
  bnd (
    if (decide (s215.2 < (100000 : Int))) = true then
      bnd (leg_Leg_Quiet K x8.1) fun x217 =>
      ret (!x217)
    else
      ret false) fun (x216 : Bool) =>
  if x216 = true then
    bnd (leg_Leg_Take K x8.1 (IntKind.wrap .i64 ((1 : Int) + (IntKind.wrap .i64 a3)))) fun x218 =>
    bnd (leg_Leg_Feed K x10.1 x218) fun x219 =>
    appS 47 3 32 [.int .i64 (0 : Int), .int .i64 (0 : Int), .string (ByteArray.mk #[])] s215.1 x219 fun x220 =>
    lt (IntKind.wrap .i64 (s215.2 + (1 : Int))) fun x221 =>
    again (x220, x221)
  else
    ret (.inl (s215.1, x207))
def law16_LegBoth_l1 (K : Nat) (a1 : Sl) (x6 : Addr) (x8 : Option Addr × Int) (a3 : Int) (x10 : Option Addr × Int) (again : (Sl × Sl × Int) → G ((Sl × Sl) ⊕ Bool)) (s173 : Sl × Sl × Int) : G ((Sl × Sl) ⊕ Bool) :=
  if (decide (s173.2.2 < (a1.n : Int))) = true then
    bnd (
      ixA a1 s173.2.2 3 fun x198 =>
      ldS (x198.add 2) fun x199 =>
      new [.int .i64 (0 : Int), .int .i64 (0 : Int), .string (ByteArray.mk #[])] 47 fun x200 =>
      st x200 (.agg (Agg.cells (Tapi_Event.mk (2 : Int) (0 : Int) x199)).toArray) <|
      ldS (x200.add 2) fun x201 =>
      ldI .i64 (x6.add 3) fun x202 =>
      if (decide (x202 < (x201.size : Int))) = true then
        inr (inr (ret true))
      else
        ldG (α := Tapi_Event) x200 fun x203 =>
        bnd (leg_Leg_Send K x8.1 x203) fun x204 =>
        if (!x204) = true then
          inr (inr (ret false))
        else
          ldG (α := Tapi_Event) x200 fun x205 =>
          new (Agg.cells x205) 47 fun x206 =>
          appS 47 3 32 [.int .i64 (0 : Int), .int .i64 (0 : Int), .string (ByteArray.mk #[])] s173.2.1 (Sl.mk (some x206) 1 1) fun x207 =>
          loopG (law16_LegBoth_l0 K x8 a3 x10 x207) K (s173.1, (0 : Int))) (sumK fun (s222 : Sl × Sl) =>
    lt (IntKind.wrap .i64 (s173.2.2 + (1 : Int))) fun x223 =>
    again (s222.1, s222.2, x223))
  else
    ret (.inl (s173.1, s173.2.1))
def law16_LegBoth_l2 (K : Nat) (x8 : Option Addr × Int) (a3 : Int) (x10 : Option Addr × Int) (again : (Sl × Int) → G (Sl)) (s284 : Sl × Int) : G (Sl) :=
  bnd (
    if (decide (s284.2 < (100000 : Int))) = true then
      bnd (leg_Leg_Quiet K x8.1) fun x286 =>
      ret (!x286)
    else
      ret false) fun (x285 : Bool) =>
  if x285 = true then
    bnd (leg_Leg_Take K x8.1 (IntKind.wrap .i64 ((1 : Int) + (IntKind.wrap .i64 a3)))) fun x287 =>
    bnd (leg_Leg_Feed K x10.1 x287) fun x288 =>
    appS 47 3 32 [.int .i64 (0 : Int), .int .i64 (0 : Int), .string (ByteArray.mk #[])] s284.1 x288 fun x289 =>
    lt (IntKind.wrap .i64 (s284.2 + (1 : Int))) fun x290 =>
    again (x289, x290)
  else
    ret (s284.1)
def law16_LegBoth (K : Nat) (a0 : A3u8) (a1 : Sl) (a2 : Int) (a3 : Int) (a4 : Int) : G (Bool) :=
  new (Agg.cells a0) 40 fun x1 =>
  ldI .u8 (x1.add ((0 : Int).toNat * 1)) fun x2 =>
  ldI .u8 (x1.add ((1 : Int).toNat * 1)) fun x3 =>
  ldI .u8 (x1.add ((2 : Int).toNat * 1)) fun x4 =>
  bnd (law16_Config K x2 x3 x4) fun x5 =>
  new [.slice Sl.nil.a Sl.nil.n Sl.nil.c, .slice Sl.nil.a Sl.nil.n Sl.nil.c, .int .i64 (0 : Int), .int .i64 (0 : Int), .int .i64 (0 : Int), .int .i64 (0 : Int), .int .i64 (0 : Int), .int .i64 (0 : Int), .int .i64 (0 : Int), .int .i64 (0 : Int), .int .i64 (0 : Int), .int .i64 (0 : Int)] 25 fun x6 =>
  st x6 (.agg (Agg.cells x5).toArray) <|
  ldG (α := Tapi_Config) x6 fun x7 =>
  bnd (leg_New K x7 false a2) fun x8 =>
  ldG (α := Tapi_Config) x6 fun x9 =>
  bnd (leg_New K x9 true (0 : Int)) fun x10 =>
  bnd (law16_awake K) fun x11 =>
  bnd (
    if (!x11) = true then
      ret true
    else
      ret (x8.2 != (0 : Int))) fun (x12 : Bool) =>
  bnd (
    if x12 = true then
      ret true
    else
      ret (x10.2 != (0 : Int))) fun (x13 : Bool) =>
  bnd (
    if x13 = true then
      ret true
    else
      ret (Option.isNone x8.1)) fun (x14 : Bool) =>
  bnd (
    if x14 = true then
      ret true
    else
      ret (Option.isNone x10.1)) fun (x15 : Bool) =>
  bnd (
    if x15 = true then
      ret true
    else
      ret (decide ((10 : Int) < (a1.n : Int)))) fun (x16 : Bool) =>
  if x16 = true then
    bnd (law16_awake K) fun x17 =>
    ret x17
  else
    new [] 47 fun x18 =>
    new [] 47 fun x19 =>
    bnd (
      loopG (law16_LegBoth_l1 K a1 x6 x8 a3 x10) K ((Sl.mk (some x18) 0 0), (Sl.mk (some x19) 0 0), (0 : Int))) (sumK fun (s224 : Sl × Sl) =>
    bnd (leg_Leg_Close K x8.1 a4 (ByteArray.mk #[])) fun x225 =>
    bnd (
      if x225 = true then
        bnd (
          loopG (law16_LegBoth_l2 K x8 a3 x10) K (s224.1, (0 : Int))) fun (s291 : Sl) =>
        bnd (leg_Leg_Got K x10.1) fun x292 =>
        bnd (
          if (!x292) = true then
            ret true
          else
            ret ((s291.n : Int) == (0 : Int))) fun (x293 : Bool) =>
        bnd (
          if x293 = true then
            ret true
          else
            ixA s291 (IntKind.wrap .i64 ((s291.n : Int) - (1 : Int))) 3 fun x295 =>
            ldI .i64 (x295.add 0) fun x296 =>
            ret (x296 != (8 : Int))) fun (x294 : Bool) =>
        if x294 = true then
          inr (ret false)
        else
          slS s291 none (some (IntKind.wrap .i64 ((s291.n : Int) - (1 : Int)))) none 3 fun x297 =>
          bnd (leg_Leg_Take K x10.1 (300 : Int)) fun x298 =>
          bnd (leg_Leg_Feed K x8.1 x298) fun x299 =>
          ret (.inl (x297))
      else
        ret (.inl (s224.1))) (sumK fun (s300 : Sl) =>
    bnd (ref12_Same K s300 s224.2) fun x301 =>
    bnd (
      if x301 = true then
        bnd (leg_Leg_Wrong K x10.1) fun x303 =>
        ret (x303 == (0 : Int))
      else
        ret false) fun (x302 : Bool) =>
    bnd (
      if x302 = true then
        bnd (leg_Leg_Wrong K x8.1) fun x305 =>
        ret (x305 == (0 : Int))
      else
        ret false) fun (x304 : Bool) =>
    ret x304))
set_option maxRecDepth 100000 in
theorem law16_LegBoth_ref (K : Nat) (a0 : A3u8) (a1 : Sl) (a2 : Int) (a3 : Int) (a4 : Int) : Does Try.prog 5 [.agg (Agg.cells a0).toArray, .slice a1.a a1.n a1.c, .int .u32 a2, .int .u8 a3, .int .i64 a4] (law16_LegBoth K a0 a1 a2 a3 a4) (fun r => .bool r) := by
  refine Does.of Try.func5 rfl rfl rfl ?_
  unfold law16_LegBoth
  refine RefC.seq ?_
  refine RefC.region ?_
  refine RefL.hv rfl rfl (Hv.box rfl rfl fun x1 => ?_)
  refine RefL.pure rfl rfl (RanP.assign rfl) ?_
  refine RefL.nil ?_
  refine RefE.next ?_
  refine RefC.seq ?_
  refine RefC.region ?_
  refine RefL.pure rfl rfl (RanP.ixArr (len := 3) (by decide) Try.underlying40 Try.sizeOf5 rfl rfl) ?_
  refine RefL.li rfl rfl (Lt.ldI Try.isAgg5 rfl fun x2 => ?_)
  refine RefL.pure rfl rfl (RanP.ixArr (len := 3) (by decide) Try.underlying40 Try.sizeOf5 rfl rfl) ?_
  refine RefL.li rfl rfl (Lt.ldI Try.isAgg5 rfl fun x3 => ?_)
  refine RefL.pure rfl rfl (RanP.ixArr (len := 3) (by decide) Try.underlying40 Try.sizeOf5 rfl rfl) ?_
  refine RefL.li rfl rfl (Lt.ldI Try.isAgg5 rfl fun x4 => ?_)
  refine RefL.hv rfl rfl (Hv.call (law16_Config_ref K x2 x3 x4) Try.call8 rfl rfl rfl fun x5 => ?_)
  refine RefL.hv rfl rfl (Hv.newZ Try.zeroValue25 rfl fun x6 => ?_)
  refine RefL.hv rfl rfl (Hv.st Try.sizeOf25 rfl rfl rfl ?_)
  refine RefL.nil ?_
  refine RefE.next ?_
  refine RefC.seq ?_
  refine RefC.region ?_
  refine RefL.li rfl rfl (Lt.ldG (τ := Tapi_Config) Try.isAgg25 Try.sizeOf25 rfl fun x7 => ?_)
  refine RefL.pure rfl rfl (RanP.move rfl) ?_
  refine RefL.hv rfl rfl (Hv.call (leg_New_ref K x7 false a2) Try.call9 rfl rfl rfl fun x8 => ?_)
  refine RefL.pure rfl rfl (RanP.move rfl) ?_
  refine RefL.pure rfl rfl (RanP.extract rfl rfl) ?_
  refine RefL.pure rfl rfl (RanP.extract rfl rfl) ?_
  refine RefL.pure rfl rfl (RanP.assign rfl) ?_
  refine RefL.pure rfl rfl (RanP.assign rfl) ?_
  refine RefL.nil ?_
  refine RefE.next ?_
  refine RefC.seq ?_
  refine RefC.region ?_
  refine RefL.li rfl rfl (Lt.ldG (τ := Tapi_Config) Try.isAgg25 Try.sizeOf25 rfl fun x9 => ?_)
  refine RefL.hv rfl rfl (Hv.call (leg_New_ref K x9 true (0 : Int)) Try.call9 rfl rfl rfl fun x10 => ?_)
  refine RefL.pure rfl rfl (RanP.move rfl) ?_
  refine RefL.pure rfl rfl (RanP.extract rfl rfl) ?_
  refine RefL.pure rfl rfl (RanP.extract rfl rfl) ?_
  refine RefL.pure rfl rfl (RanP.assign rfl) ?_
  refine RefL.pure rfl rfl (RanP.assign rfl) ?_
  refine RefL.nil ?_
  refine RefE.next ?_
  refine RefC.seq ?_
  refine RefC.seq ?_
  refine RefC.region ?_
  refine RefL.hv rfl rfl (Hv.call (law16_awake_ref K) Try.call10 rfl rfl rfl fun x11 => ?_)
  refine RefL.pure rfl rfl (RanP.not rfl) ?_
  refine RefL.pure rfl rfl (RanP.move rfl) ?_
  refine RefL.cut (enc := fun (x12 : Bool) => ([(45, .bool x12), (1, .slice a1.a a1.n a1.c), (3, .int .u8 a3), (4, .int .i64 a4), (11, .pointer (some x6)), (12, .pointer x8.1), (14, .pointer x10.1), (15, .int .i64 x10.2)] : Env)) 3 ?_ ?_
  · refine RefL.ite (s := 42) rfl ?_ ?_
    · refine RefL.skip rfl rfl ?_
      refine RefL.skip rfl rfl ?_
      refine RefL.pure rfl rfl (RanP.pickT rfl rfl) ?_
      refine RefL.nil ?_
      exact RefE.fin (s := true) ⟨rfl, rfl, rfl, rfl, rfl, rfl, rfl, rfl, trivial⟩
    · refine RefL.pure rfl rfl (RanP.move rfl) ?_
      refine RefL.pure rfl rfl (RanP.neq rfl rfl) ?_
      refine RefL.pure rfl rfl (RanP.pickF rfl rfl) ?_
      refine RefL.nil ?_
      exact RefE.fin (s := (x8.2 != (0 : Int))) ⟨rfl, rfl, rfl, rfl, rfl, rfl, rfl, rfl, trivial⟩
  · intro x12
    refine RefL.pure rfl rfl (RanP.move rfl) ?_
    refine RefL.cut (enc := fun (x13 : Bool) => ([(49, .bool x13), (1, .slice a1.a a1.n a1.c), (3, .int .u8 a3), (4, .int .i64 a4), (11, .pointer (some x6)), (12, .pointer x8.1), (14, .pointer x10.1)] : Env)) 3 ?_ ?_
    · refine RefL.ite (s := 46) rfl ?_ ?_
      · refine RefL.skip rfl rfl ?_
        refine RefL.skip rfl rfl ?_
        refine RefL.pure rfl rfl (RanP.pickT rfl rfl) ?_
        refine RefL.nil ?_
        exact RefE.fin (s := true) ⟨rfl, rfl, rfl, rfl, rfl, rfl, rfl, trivial⟩
      · refine RefL.pure rfl rfl (RanP.move rfl) ?_
        refine RefL.pure rfl rfl (RanP.neq rfl rfl) ?_
        refine RefL.pure rfl rfl (RanP.pickF rfl rfl) ?_
        refine RefL.nil ?_
        exact RefE.fin (s := (x10.2 != (0 : Int))) ⟨rfl, rfl, rfl, rfl, rfl, rfl, rfl, trivial⟩
    · intro x13
      refine RefL.pure rfl rfl (RanP.move rfl) ?_
      refine RefL.cut (enc := fun (x14 : Bool) => ([(53, .bool x14), (1, .slice a1.a a1.n a1.c), (3, .int .u8 a3), (4, .int .i64 a4), (11, .pointer (some x6)), (12, .pointer x8.1), (14, .pointer x10.1)] : Env)) 3 ?_ ?_
      · refine RefL.ite (s := 50) rfl ?_ ?_
        · refine RefL.skip rfl rfl ?_
          refine RefL.skip rfl rfl ?_
          refine RefL.pure rfl rfl (RanP.pickT rfl rfl) ?_
          refine RefL.nil ?_
          exact RefE.fin (s := true) ⟨rfl, rfl, rfl, rfl, rfl, rfl, rfl, trivial⟩
        · refine RefL.pure rfl rfl (RanP.move rfl) ?_
          refine RefL.pure rfl rfl (RanP.eqlNil Try.underlying27 rfl rfl) ?_
          refine RefL.pure rfl rfl (RanP.pickF rfl rfl) ?_
          refine RefL.nil ?_
          exact RefE.fin (s := (Option.isNone x8.1)) ⟨rfl, rfl, rfl, rfl, rfl, rfl, rfl, trivial⟩
      · intro x14
        refine RefL.pure rfl rfl (RanP.move rfl) ?_
        refine RefL.cut (enc := fun (x15 : Bool) => ([(57, .bool x15), (1, .slice a1.a a1.n a1.c), (3, .int .u8 a3), (4, .int .i64 a4), (11, .pointer (some x6)), (12, .pointer x8.1), (14, .pointer x10.1)] : Env)) 3 ?_ ?_
        · refine RefL.ite (s := 54) rfl ?_ ?_
          · refine RefL.skip rfl rfl ?_
            refine RefL.skip rfl rfl ?_
            refine RefL.pure rfl rfl (RanP.pickT rfl rfl) ?_
            refine RefL.nil ?_
            exact RefE.fin (s := true) ⟨rfl, rfl, rfl, rfl, rfl, rfl, rfl, trivial⟩
          · refine RefL.pure rfl rfl (RanP.move rfl) ?_
            refine RefL.pure rfl rfl (RanP.eqlNil Try.underlying27 rfl rfl) ?_
            refine RefL.pure rfl rfl (RanP.pickF rfl rfl) ?_
            refine RefL.nil ?_
            exact RefE.fin (s := (Option.isNone x10.1)) ⟨rfl, rfl, rfl, rfl, rfl, rfl, rfl, trivial⟩
        · intro x15
          refine RefL.pure rfl rfl (RanP.move rfl) ?_
          refine RefL.cut (enc := fun (x16 : Bool) => ([(62, .bool x16), (1, .slice a1.a a1.n a1.c), (3, .int .u8 a3), (4, .int .i64 a4), (11, .pointer (some x6)), (12, .pointer x8.1), (14, .pointer x10.1)] : Env)) 4 ?_ ?_
          · refine RefL.ite (s := 58) rfl ?_ ?_
            · refine RefL.skip rfl rfl ?_
              refine RefL.skip rfl rfl ?_
              refine RefL.skip rfl rfl ?_
              refine RefL.pure rfl rfl (RanP.pickT rfl rfl) ?_
              refine RefL.nil ?_
              exact RefE.fin (s := true) ⟨rfl, rfl, rfl, rfl, rfl, rfl, rfl, trivial⟩
            · refine RefL.pure rfl rfl (RanP.move rfl) ?_
              refine RefL.pure rfl rfl (RanP.lenSl rfl Try.underlying34 rfl) ?_
              refine RefL.pure rfl rfl (RanP.gtr rfl rfl) ?_
              refine RefL.pure rfl rfl (RanP.pickF rfl rfl) ?_
              refine RefL.nil ?_
              exact RefE.fin (s := (decide ((10 : Int) < (a1.n : Int)))) ⟨rfl, rfl, rfl, rfl, rfl, rfl, rfl, trivial⟩
          · intro x16
            refine RefL.nil ?_
            refine RefE.next ?_
            refine RefC.cond rfl ?_ ?_
            · refine RefC.seq ?_
              refine RefC.region ?_
              refine RefL.hv rfl rfl (Hv.call (law16_awake_ref K) Try.call10 rfl rfl rfl fun x17 => ?_)
              refine RefL.pure rfl rfl (RanP.assign rfl) ?_
              refine RefL.nil ?_
              refine RefE.next ?_
              refine RefC.ret ?_
              refine RefE.thenRet ?_
              refine RefE.retV rfl ?_
              refine RefV.tmp rfl ?_
              exact RefV.nil rfl
            · refine RefC.skip ?_
              refine RefE.next ?_
              refine RefC.seq ?_
              refine RefC.region ?_
              refine RefL.hv rfl rfl (Hv.buildSlice rfl (cs := []) (e := 47) (fun _ => by kernel_rfl) fun x18 => ?_)
              refine RefL.hv rfl rfl (Hv.buildSlice rfl (cs := []) (e := 47) (fun _ => by kernel_rfl) fun x19 => ?_)
              refine RefL.pure rfl rfl (RanP.assign rfl) ?_
              refine RefL.pure rfl rfl (RanP.assign rfl) ?_
              refine RefL.nil ?_
              refine RefE.next ?_
              refine RefC.seq ?_
              refine RefC.seq ?_
              refine RefC.region ?_
              refine RefL.pure rfl rfl (RanP.assign rfl) ?_
              refine RefL.nil ?_
              refine RefE.next ?_
              refine RefC.cutSum (enc := fun (s224 : Sl × Sl) => ([(16, .slice s224.1.a s224.1.n s224.1.c), (17, .slice s224.2.a s224.2.n s224.2.c), (3, .int .u8 a3), (4, .int .i64 a4), (12, .pointer x8.1), (14, .pointer x10.1)] : Env)) (KThen.mono KRet.mono) ?_ ?_
              · refine RefC.block ?_
                refine RefC.loopW (enc := fun (s173 : Sl × Sl × Int) => ([(16, .slice s173.1.a s173.1.n s173.1.c), (17, .slice s173.2.1.a s173.2.1.n s173.2.1.c), (18, .int .i64 s173.2.2), (1, .slice a1.a a1.n a1.c), (3, .int .u8 a3), (4, .int .i64 a4), (11, .pointer (some x6)), (12, .pointer x8.1), (14, .pointer x10.1)] : Env)) ⟨rfl, rfl, rfl, rfl, rfl, rfl, rfl, rfl, rfl, trivial⟩ ?_ _
                intro again k ih s173
                unfold law16_LegBoth_l1
                refine RefC.seq ?_
                refine RefC.seq ?_
                refine RefC.region ?_
                refine RefL.pure rfl rfl (RanP.move rfl) ?_
                refine RefL.pure rfl rfl (RanP.move rfl) ?_
                refine RefL.pure rfl rfl (RanP.lenSl rfl Try.underlying34 rfl) ?_
                refine RefL.pure rfl rfl (RanP.lss rfl rfl) ?_
                refine RefL.nil ?_
                refine RefE.next ?_
                refine RefC.cond rfl ?_ ?_
                · refine RefC.skip ?_
                  refine RefE.next ?_
                  refine RefC.seq ?_
                  refine RefC.cutSum (enc := fun (s222 : Sl × Sl) => ([(16, .slice s222.1.a s222.1.n s222.1.c), (17, .slice s222.2.a s222.2.n s222.2.c), (1, .slice a1.a a1.n a1.c), (3, .int .u8 a3), (4, .int .i64 a4), (11, .pointer (some x6)), (12, .pointer x8.1), (14, .pointer x10.1), (18, .int .i64 s173.2.2)] : Env)) (KThen.mono (KRound.mono (KBlock.mono (KSum.mono (KThen.mono KRet.mono))))) ?_ ?_
                  · refine RefC.block ?_
                    refine RefC.seq ?_
                    refine RefC.region ?_
                    refine RefL.pure rfl rfl (RanP.move rfl) ?_
                    refine RefL.pure rfl rfl (RanP.move rfl) ?_
                    refine RefL.li rfl rfl (Lt.ixA Try.underlying34 Try.sizeOf47 rfl rfl fun x198 => ?_)
                    refine RefL.pure rfl rfl (RanP.fieldAddr fa_47_2 rfl) ?_
                    refine RefL.li rfl rfl (Lt.ldS Try.isAgg9 rfl fun x199 => ?_)
                    refine RefL.pure rfl rfl (RanP.build rfl (v := .agg (Agg.cells (Tapi_Event.mk (2 : Int) (0 : Int) x199)).toArray) (fun _ => by kernel_rfl)) ?_
                    refine RefL.hv rfl rfl (Hv.newZ Try.zeroValue47 rfl fun x200 => ?_)
                    refine RefL.hv rfl rfl (Hv.st Try.sizeOf47 rfl rfl rfl ?_)
                    refine RefL.nil ?_
                    refine RefE.next ?_
                    refine RefC.seq ?_
                    refine RefC.seq ?_
                    refine RefC.region ?_
                    refine RefL.pure rfl rfl (RanP.fieldAddr fa_47_2 rfl) ?_
                    refine RefL.li rfl rfl (Lt.ldS Try.isAgg9 rfl fun x201 => ?_)
                    refine RefL.pure rfl rfl (RanP.lenS rfl Try.underlying9 rfl) ?_
                    refine RefL.pure rfl rfl (RanP.fieldAddr fa_25_3 rfl) ?_
                    refine RefL.li rfl rfl (Lt.ldI Try.isAgg3 rfl fun x202 => ?_)
                    refine RefL.pure rfl rfl (RanP.gtr rfl rfl) ?_
                    refine RefL.nil ?_
                    refine RefE.next ?_
                    refine RefC.cond rfl ?_ ?_
                    · refine RefC.seq ?_
                      refine RefC.region ?_
                      refine RefL.pure rfl rfl (RanP.assign rfl) ?_
                      refine RefL.nil ?_
                      refine RefE.next ?_
                      refine RefC.ret ?_
                      refine RefE.thenRet ?_
                      refine RefE.blockRet ?_
                      refine RefE.finR ?_
                      refine RefE.thenRet ?_
                      refine RefE.roundRet ?_
                      refine RefE.blockRet ?_
                      refine RefE.finR ?_
                      refine RefE.thenRet ?_
                      refine RefE.retV rfl ?_
                      refine RefV.tmp rfl ?_
                      exact RefV.nil rfl
                    · refine RefC.skip ?_
                      refine RefE.next ?_
                      refine RefC.seq ?_
                      refine RefC.seq ?_
                      refine RefC.region ?_
                      refine RefL.pure rfl rfl (RanP.move rfl) ?_
                      refine RefL.li rfl rfl (Lt.ldG (τ := Tapi_Event) Try.isAgg47 Try.sizeOf47 rfl fun x203 => ?_)
                      refine RefL.hv rfl rfl (Hv.call (leg_Leg_Send_ref K x8.1 x203) Try.call18 rfl rfl rfl fun x204 => ?_)
                      refine RefL.pure rfl rfl (RanP.not rfl) ?_
                      refine RefL.nil ?_
                      refine RefE.next ?_
                      refine RefC.cond rfl ?_ ?_
                      · refine RefC.seq ?_
                        refine RefC.region ?_
                        refine RefL.pure rfl rfl (RanP.assign rfl) ?_
                        refine RefL.nil ?_
                        refine RefE.next ?_
                        refine RefC.ret ?_
                        refine RefE.thenRet ?_
                        refine RefE.blockRet ?_
                        refine RefE.finR ?_
                        refine RefE.thenRet ?_
                        refine RefE.roundRet ?_
                        refine RefE.blockRet ?_
                        refine RefE.finR ?_
                        refine RefE.thenRet ?_
                        refine RefE.retV rfl ?_
                        refine RefV.tmp rfl ?_
                        exact RefV.nil rfl
                      · refine RefC.skip ?_
                        refine RefE.next ?_
                        refine RefC.seq ?_
                        refine RefC.region ?_
                        refine RefL.pure rfl rfl (RanP.move rfl) ?_
                        refine RefL.li rfl rfl (Lt.ldG (τ := Tapi_Event) Try.isAgg47 Try.sizeOf47 rfl fun x205 => ?_)
                        refine RefL.hv rfl rfl (Hv.buildSlice rfl (cs := (Agg.cells x205)) (e := 47) (fun _ => by kernel_rfl) fun x206 => ?_)
                        refine RefL.hv rfl rfl (Hv.appS (i := Try.t47) rfl Try.underlying34 Try.underlying34 rfl rfl rfl rfl fun x207 => ?_)
                        refine RefL.pure rfl rfl (RanP.assign rfl) ?_
                        refine RefL.nil ?_
                        refine RefE.next ?_
                        refine RefC.seq ?_
                        refine RefC.region ?_
                        refine RefL.pure rfl rfl (RanP.assign rfl) ?_
                        refine RefL.nil ?_
                        refine RefE.next ?_
                        refine RefC.block ?_
                        refine RefC.loopW (enc := fun (s215 : Sl × Int) => ([(16, .slice s215.1.a s215.1.n s215.1.c), (20, .int .i64 s215.2), (1, .slice a1.a a1.n a1.c), (3, .int .u8 a3), (4, .int .i64 a4), (11, .pointer (some x6)), (12, .pointer x8.1), (14, .pointer x10.1), (17, .slice x207.a x207.n x207.c), (18, .int .i64 s173.2.2)] : Env)) ⟨rfl, rfl, rfl, rfl, rfl, rfl, rfl, rfl, rfl, rfl, trivial⟩ ?_ _
                        intro again k ih s215
                        unfold law16_LegBoth_l0
                        refine RefC.seq ?_
                        refine RefC.seq ?_
                        refine RefC.region ?_
                        refine RefL.pure rfl rfl (RanP.move rfl) ?_
                        refine RefL.pure rfl rfl (RanP.lss rfl rfl) ?_
                        refine RefL.pure rfl rfl (RanP.move rfl) ?_
                        refine RefL.cut (enc := fun (x216 : Bool) => ([(98, .bool x216), (1, .slice a1.a a1.n a1.c), (3, .int .u8 a3), (4, .int .i64 a4), (11, .pointer (some x6)), (12, .pointer x8.1), (14, .pointer x10.1), (16, .slice s215.1.a s215.1.n s215.1.c), (17, .slice x207.a x207.n x207.c), (18, .int .i64 s173.2.2), (20, .int .i64 s215.2)] : Env)) 4 ?_ ?_
                        · refine RefL.ite (s := 94) rfl ?_ ?_
                          · refine RefL.pure rfl rfl (RanP.move rfl) ?_
                            refine RefL.hv rfl rfl (Hv.call (leg_Leg_Quiet_ref K x8.1) Try.call24 rfl rfl rfl fun x217 => ?_)
                            refine RefL.pure rfl rfl (RanP.not rfl) ?_
                            refine RefL.pure rfl rfl (RanP.pickT rfl rfl) ?_
                            refine RefL.nil ?_
                            exact RefE.fin (s := (!x217)) ⟨rfl, rfl, rfl, rfl, rfl, rfl, rfl, rfl, rfl, rfl, rfl, trivial⟩
                          · refine RefL.skip rfl rfl ?_
                            refine RefL.skip rfl rfl ?_
                            refine RefL.skip rfl rfl ?_
                            refine RefL.pure rfl rfl (RanP.pickF rfl rfl) ?_
                            refine RefL.nil ?_
                            exact RefE.fin (s := false) ⟨rfl, rfl, rfl, rfl, rfl, rfl, rfl, rfl, rfl, rfl, rfl, trivial⟩
                        · intro x216
                          refine RefL.nil ?_
                          refine RefE.next ?_
                          refine RefC.cond rfl ?_ ?_
                          · refine RefC.skip ?_
                            refine RefE.next ?_
                            refine RefC.seq ?_
                            refine RefC.block ?_
                            refine RefC.region ?_
                            refine RefL.pure rfl rfl (RanP.move rfl) ?_
                            refine RefL.pure rfl rfl (RanP.move rfl) ?_
                            refine RefL.pure rfl rfl (RanP.move rfl) ?_
                            refine RefL.pure rfl rfl (RanP.move rfl) ?_
                            refine RefL.pure rfl rfl (RanP.conv Try.underlying5 Try.underlying3 rfl) ?_
                            refine RefL.pure rfl rfl (RanP.add rfl rfl) ?_
                            refine RefL.hv rfl rfl (Hv.call (leg_Leg_Take_ref K x8.1 (IntKind.wrap .i64 ((1 : Int) + (IntKind.wrap .i64 a3)))) Try.call21 rfl rfl rfl fun x218 => ?_)
                            refine RefL.hv rfl rfl (Hv.call (leg_Leg_Feed_ref K x10.1 x218) Try.call12 rfl rfl rfl fun x219 => ?_)
                            refine RefL.hv rfl rfl (Hv.appS (i := Try.t47) rfl Try.underlying34 Try.underlying34 rfl rfl rfl rfl fun x220 => ?_)
                            refine RefL.pure rfl rfl (RanP.assign rfl) ?_
                            refine RefL.nil ?_
                            refine RefE.blockNormal ?_
                            refine RefE.next ?_
                            refine RefC.region ?_
                            refine RefL.pure rfl rfl (RanP.move rfl) ?_
                            refine RefL.pure rfl rfl (RanP.add rfl rfl) ?_
                            refine RefL.pure rfl rfl (RanP.assign rfl) ?_
                            refine RefL.lt 20 (fun y => .int .i64 y) rfl fun x221 => ?_
                            refine RefL.nil ?_
                            exact RefE.again (ih (x220, x221)) ⟨rfl, rfl, rfl, rfl, rfl, rfl, rfl, rfl, rfl, rfl, trivial⟩
                          · refine RefC.exit ?_
                            refine RefE.thenExit ?_
                            refine RefE.roundExit ?_
                            refine RefE.blockExit ?_
                            refine RefE.blockNormal ?_
                            exact RefE.finL (s := (s215.1, x207)) ⟨rfl, rfl, rfl, rfl, rfl, rfl, rfl, rfl, rfl, trivial⟩
                  · intro s222
                    refine RefE.next ?_
                    refine RefC.region ?_
                    refine RefL.pure rfl rfl (RanP.move rfl) ?_
                    refine RefL.pure rfl rfl (RanP.add rfl rfl) ?_
                    refine RefL.pure rfl rfl (RanP.assign rfl) ?_
                    refine RefL.lt 18 (fun y => .int .i64 y) rfl fun x223 => ?_
                    refine RefL.nil ?_
                    exact RefE.again (ih (s222.1, s222.2, x223)) ⟨rfl, rfl, rfl, rfl, rfl, rfl, rfl, rfl, rfl, trivial⟩
                · refine RefC.exit ?_
                  refine RefE.thenExit ?_
                  refine RefE.roundExit ?_
                  refine RefE.blockExit ?_
                  exact RefE.finL (s := (s173.1, s173.2.1)) ⟨rfl, rfl, rfl, rfl, rfl, rfl, trivial⟩
              · intro s224
                refine RefE.next ?_
                refine RefC.seq ?_
                refine RefC.seq ?_
                refine RefC.region ?_
                refine RefL.pure rfl rfl (RanP.move rfl) ?_
                refine RefL.pure rfl rfl (RanP.move rfl) ?_
                refine RefL.hv rfl rfl (Hv.call (leg_Leg_Close_ref K x8.1 a4 (ByteArray.mk #[])) Try.call20 rfl rfl rfl fun x225 => ?_)
                refine RefL.nil ?_
                refine RefE.next ?_
                refine RefC.cutSum (enc := fun (s300 : Sl) => ([(16, .slice s300.a s300.n s300.c), (12, .pointer x8.1), (14, .pointer x10.1), (17, .slice s224.2.a s224.2.n s224.2.c)] : Env)) (KThen.mono KRet.mono) ?_ ?_
                · refine RefC.cond rfl ?_ ?_
                  · refine RefC.seq ?_
                    refine RefC.seq ?_
                    refine RefC.region ?_
                    refine RefL.pure rfl rfl (RanP.assign rfl) ?_
                    refine RefL.nil ?_
                    refine RefE.next ?_
                    refine RefC.cut (enc := fun (s291 : Sl) => ([(16, .slice s291.a s291.n s291.c), (12, .pointer x8.1), (14, .pointer x10.1), (17, .slice s224.2.a s224.2.n s224.2.c)] : Env)) ?_ ?_
                    · refine RefC.block ?_
                      refine RefC.loopW (enc := fun (s284 : Sl × Int) => ([(16, .slice s284.1.a s284.1.n s284.1.c), (21, .int .i64 s284.2), (3, .int .u8 a3), (12, .pointer x8.1), (14, .pointer x10.1), (17, .slice s224.2.a s224.2.n s224.2.c)] : Env)) ⟨rfl, rfl, rfl, rfl, rfl, rfl, trivial⟩ ?_ _
                      intro again k ih s284
                      unfold law16_LegBoth_l2
                      refine RefC.seq ?_
                      refine RefC.seq ?_
                      refine RefC.region ?_
                      refine RefL.pure rfl rfl (RanP.move rfl) ?_
                      refine RefL.pure rfl rfl (RanP.lss rfl rfl) ?_
                      refine RefL.pure rfl rfl (RanP.move rfl) ?_
                      refine RefL.cut (enc := fun (x285 : Bool) => ([(119, .bool x285), (3, .int .u8 a3), (12, .pointer x8.1), (14, .pointer x10.1), (16, .slice s284.1.a s284.1.n s284.1.c), (17, .slice s224.2.a s224.2.n s224.2.c), (21, .int .i64 s284.2)] : Env)) 4 ?_ ?_
                      · refine RefL.ite (s := 115) rfl ?_ ?_
                        · refine RefL.pure rfl rfl (RanP.move rfl) ?_
                          refine RefL.hv rfl rfl (Hv.call (leg_Leg_Quiet_ref K x8.1) Try.call24 rfl rfl rfl fun x286 => ?_)
                          refine RefL.pure rfl rfl (RanP.not rfl) ?_
                          refine RefL.pure rfl rfl (RanP.pickT rfl rfl) ?_
                          refine RefL.nil ?_
                          exact RefE.fin (s := (!x286)) ⟨rfl, rfl, rfl, rfl, rfl, rfl, rfl, trivial⟩
                        · refine RefL.skip rfl rfl ?_
                          refine RefL.skip rfl rfl ?_
                          refine RefL.skip rfl rfl ?_
                          refine RefL.pure rfl rfl (RanP.pickF rfl rfl) ?_
                          refine RefL.nil ?_
                          exact RefE.fin (s := false) ⟨rfl, rfl, rfl, rfl, rfl, rfl, rfl, trivial⟩
                      · intro x285
                        refine RefL.nil ?_
                        refine RefE.next ?_
                        refine RefC.cond rfl ?_ ?_
                        · refine RefC.skip ?_
                          refine RefE.next ?_
                          refine RefC.seq ?_
                          refine RefC.block ?_
                          refine RefC.region ?_
                          refine RefL.pure rfl rfl (RanP.move rfl) ?_
                          refine RefL.pure rfl rfl (RanP.move rfl) ?_
                          refine RefL.pure rfl rfl (RanP.move rfl) ?_
                          refine RefL.pure rfl rfl (RanP.move rfl) ?_
                          refine RefL.pure rfl rfl (RanP.conv Try.underlying5 Try.underlying3 rfl) ?_
                          refine RefL.pure rfl rfl (RanP.add rfl rfl) ?_
                          refine RefL.hv rfl rfl (Hv.call (leg_Leg_Take_ref K x8.1 (IntKind.wrap .i64 ((1 : Int) + (IntKind.wrap .i64 a3)))) Try.call21 rfl rfl rfl fun x287 => ?_)
                          refine RefL.hv rfl rfl (Hv.call (leg_Leg_Feed_ref K x10.1 x287) Try.call12 rfl rfl rfl fun x288 => ?_)
                          refine RefL.hv rfl rfl (Hv.appS (i := Try.t47) rfl Try.underlying34 Try.underlying34 rfl rfl rfl rfl fun x289 => ?_)
                          refine RefL.pure rfl rfl (RanP.assign rfl) ?_
                          refine RefL.nil ?_
                          refine RefE.blockNormal ?_
                          refine RefE.next ?_
                          refine RefC.region ?_
                          refine RefL.pure rfl rfl (RanP.move rfl) ?_
                          refine RefL.pure rfl rfl (RanP.add rfl rfl) ?_
                          refine RefL.pure rfl rfl (RanP.assign rfl) ?_
                          refine RefL.lt 21 (fun y => .int .i64 y) rfl fun x290 => ?_
                          refine RefL.nil ?_
                          exact RefE.again (ih (x289, x290)) ⟨rfl, rfl, rfl, rfl, rfl, rfl, trivial⟩
                        · refine RefC.exit ?_
                          refine RefE.thenExit ?_
                          refine RefE.roundExit ?_
                          refine RefE.blockExit ?_
                          exact RefE.fin (s := (s284.1)) ⟨rfl, rfl, rfl, rfl, trivial⟩
                    · intro s291
                      refine RefE.next ?_
                      refine RefC.seq ?_
                      refine RefC.seq ?_
                      refine RefC.region ?_
                      refine RefL.pure rfl rfl (RanP.move rfl) ?_
                      refine RefL.hv rfl rfl (Hv.call (leg_Leg_Got_ref K x10.1) Try.call15 rfl rfl rfl fun x292 => ?_)
                      refine RefL.pure rfl rfl (RanP.not rfl) ?_
                      refine RefL.pure rfl rfl (RanP.move rfl) ?_
                      refine RefL.cut (enc := fun (x293 : Bool) => ([(138, .bool x293), (12, .pointer x8.1), (14, .pointer x10.1), (16, .slice s291.a s291.n s291.c), (17, .slice s224.2.a s224.2.n s224.2.c)] : Env)) 4 ?_ ?_
                      · refine RefL.ite (s := 134) rfl ?_ ?_
                        · refine RefL.skip rfl rfl ?_
                          refine RefL.skip rfl rfl ?_
                          refine RefL.skip rfl rfl ?_
                          refine RefL.pure rfl rfl (RanP.pickT rfl rfl) ?_
                          refine RefL.nil ?_
                          exact RefE.fin (s := true) ⟨rfl, rfl, rfl, rfl, rfl, trivial⟩
                        · refine RefL.pure rfl rfl (RanP.move rfl) ?_
                          refine RefL.pure rfl rfl (RanP.lenSl rfl Try.underlying34 rfl) ?_
                          refine RefL.pure rfl rfl (RanP.eql rfl rfl) ?_
                          refine RefL.pure rfl rfl (RanP.pickF rfl rfl) ?_
                          refine RefL.nil ?_
                          exact RefE.fin (s := ((s291.n : Int) == (0 : Int))) ⟨rfl, rfl, rfl, rfl, rfl, trivial⟩
                      · intro x293
                        refine RefL.pure rfl rfl (RanP.move rfl) ?_
                        refine RefL.cut (enc := fun (x294 : Bool) => ([(148, .bool x294), (12, .pointer x8.1), (14, .pointer x10.1), (16, .slice s291.a s291.n s291.c), (17, .slice s224.2.a s224.2.n s224.2.c)] : Env)) 9 ?_ ?_
                        · refine RefL.ite (s := 139) rfl ?_ ?_
                          · refine RefL.skip rfl rfl ?_
                            refine RefL.skip rfl rfl ?_
                            refine RefL.skip rfl rfl ?_
                            refine RefL.skip rfl rfl ?_
                            refine RefL.skip rfl rfl ?_
                            refine RefL.skip rfl rfl ?_
                            refine RefL.skip rfl rfl ?_
                            refine RefL.skip rfl rfl ?_
                            refine RefL.pure rfl rfl (RanP.pickT rfl rfl) ?_
                            refine RefL.nil ?_
                            exact RefE.fin (s := true) ⟨rfl, rfl, rfl, rfl, rfl, trivial⟩
                          · refine RefL.pure rfl rfl (RanP.move rfl) ?_
                            refine RefL.pure rfl rfl (RanP.move rfl) ?_
                            refine RefL.pure rfl rfl (RanP.lenSl rfl Try.underlying34 rfl) ?_
                            refine RefL.pure rfl rfl (RanP.sub rfl rfl) ?_
                            refine RefL.li rfl rfl (Lt.ixA Try.underlying34 Try.sizeOf47 rfl rfl fun x295 => ?_)
                            refine RefL.pure rfl rfl (RanP.fieldAddr fa_47_0 rfl) ?_
                            refine RefL.li rfl rfl (Lt.ldI Try.isAgg3 rfl fun x296 => ?_)
                            refine RefL.pure rfl rfl (RanP.neq rfl rfl) ?_
                            refine RefL.pure rfl rfl (RanP.pickF rfl rfl) ?_
                            refine RefL.nil ?_
                            exact RefE.fin (s := (x296 != (8 : Int))) ⟨rfl, rfl, rfl, rfl, rfl, trivial⟩
                        · intro x294
                          refine RefL.nil ?_
                          refine RefE.next ?_
                          refine RefC.cond rfl ?_ ?_
                          · refine RefC.seq ?_
                            refine RefC.region ?_
                            refine RefL.pure rfl rfl (RanP.assign rfl) ?_
                            refine RefL.nil ?_
                            refine RefE.next ?_
                            refine RefC.ret ?_
                            refine RefE.thenRet ?_
                            refine RefE.finR ?_
                            refine RefE.thenRet ?_
                            refine RefE.retV rfl ?_
                            refine RefV.tmp rfl ?_
                            exact RefV.nil rfl
                          · refine RefC.skip ?_
                            refine RefE.next ?_
                            refine RefC.seq ?_
                            refine RefC.region ?_
                            refine RefL.pure rfl rfl (RanP.move rfl) ?_
                            refine RefL.pure rfl rfl (RanP.move rfl) ?_
                            refine RefL.pure rfl rfl (RanP.lenSl rfl Try.underlying34 rfl) ?_
                            refine RefL.pure rfl rfl (RanP.sub rfl rfl) ?_
                            refine RefL.li rfl rfl (Lt.slS (kl := .i64) (kh := .i64) (km := .i64) Try.underlying34 Try.sizeOf47 rfl rfl rfl rfl (by simp) fun x297 => ?_)
                            refine RefL.pure rfl rfl (RanP.assign rfl) ?_
                            refine RefL.nil ?_
                            refine RefE.next ?_
                            refine RefC.region ?_
                            refine RefL.pure rfl rfl (RanP.move rfl) ?_
                            refine RefL.pure rfl rfl (RanP.move rfl) ?_
                            refine RefL.hv rfl rfl (Hv.call (leg_Leg_Take_ref K x10.1 (300 : Int)) Try.call21 rfl rfl rfl fun x298 => ?_)
                            refine RefL.hv rfl rfl (Hv.call (leg_Leg_Feed_ref K x8.1 x298) Try.call12 rfl rfl rfl fun x299 => ?_)
                            refine RefL.nil ?_
                            exact RefE.finL (s := (x297)) ⟨rfl, rfl, rfl, rfl, trivial⟩
                  · refine RefC.skip ?_
                    exact RefE.finL (s := (s224.1)) ⟨rfl, rfl, rfl, rfl, trivial⟩
                · intro s300
                  refine RefE.next ?_
                  refine RefC.seq ?_
                  refine RefC.region ?_
                  refine RefL.pure rfl rfl (RanP.move rfl) ?_
                  refine RefL.pure rfl rfl (RanP.move rfl) ?_
                  refine RefL.hv rfl rfl (Hv.call (ref12_Same_ref K s300 s224.2) Try.call13 rfl rfl rfl fun x301 => ?_)
                  refine RefL.pure rfl rfl (RanP.move rfl) ?_
                  refine RefL.cut (enc := fun (x302 : Bool) => ([(165, .bool x302), (12, .pointer x8.1)] : Env)) 4 ?_ ?_
                  · refine RefL.ite (s := 161) rfl ?_ ?_
                    · refine RefL.pure rfl rfl (RanP.move rfl) ?_
                      refine RefL.hv rfl rfl (Hv.call (leg_Leg_Wrong_ref K x10.1) Try.call14 rfl rfl rfl fun x303 => ?_)
                      refine RefL.pure rfl rfl (RanP.eql rfl rfl) ?_
                      refine RefL.pure rfl rfl (RanP.pickT rfl rfl) ?_
                      refine RefL.nil ?_
                      exact RefE.fin (s := (x303 == (0 : Int))) ⟨rfl, rfl, trivial⟩
                    · refine RefL.skip rfl rfl ?_
                      refine RefL.skip rfl rfl ?_
                      refine RefL.skip rfl rfl ?_
                      refine RefL.pure rfl rfl (RanP.pickF rfl rfl) ?_
                      refine RefL.nil ?_
                      exact RefE.fin (s := false) ⟨rfl, rfl, trivial⟩
                  · intro x302
                    refine RefL.pure rfl rfl (RanP.move rfl) ?_
                    refine RefL.cut (enc := fun (x304 : Bool) => ([(170, .bool x304)] : Env)) 4 ?_ ?_
                    · refine RefL.ite (s := 166) rfl ?_ ?_
                      · refine RefL.pure rfl rfl (RanP.move rfl) ?_
                        refine RefL.hv rfl rfl (Hv.call (leg_Leg_Wrong_ref K x8.1) Try.call14 rfl rfl rfl fun x305 => ?_)
                        refine RefL.pure rfl rfl (RanP.eql rfl rfl) ?_
                        refine RefL.pure rfl rfl (RanP.pickT rfl rfl) ?_
                        refine RefL.nil ?_
                        exact RefE.fin (s := (x305 == (0 : Int))) ⟨rfl, trivial⟩
                      · refine RefL.skip rfl rfl ?_
                        refine RefL.skip rfl rfl ?_
                        refine RefL.skip rfl rfl ?_
                        refine RefL.pure rfl rfl (RanP.pickF rfl rfl) ?_
                        refine RefL.nil ?_
                        exact RefE.fin (s := false) ⟨rfl, trivial⟩
                    · intro x304
                      refine RefL.pure rfl rfl (RanP.assign rfl) ?_
                      refine RefL.nil ?_
                      refine RefE.next ?_
                      refine RefC.ret ?_
                      refine RefE.retV rfl ?_
                      refine RefV.tmp rfl ?_
                      exact RefV.nil rfl

end Go.Proofs.Ytjdnjlnfcbaokaa

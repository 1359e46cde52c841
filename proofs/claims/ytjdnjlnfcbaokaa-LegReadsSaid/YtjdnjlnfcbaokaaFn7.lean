/-
  Go functions as programs over the world, and that the model's code does what they say. Printed by gen.py (own work).
-/
import Derived.Test.YtjdnjlnfcbaokaaFn6
set_option linter.unusedVariables false
set_option linter.unusedSimpArgs false
namespace Go.Proofs.Ytjdnjlnfcbaokaa
open Go Go.Lg

def ref10_Few_l0 (K : Nat) (a0 : Sl) (again : Int → G (Unit ⊕ Bool)) (s13 : Int) : G (Unit ⊕ Bool) :=
  if (decide (s13 < (a0.n : Int))) = true then
    ixA a0 s13 1 fun x14 =>
    ldS x14 fun x15 =>
    if (decide ((300 : Int) < (x15.size : Int))) = true then
      inr (ret false)
    else
      lt (IntKind.wrap .i64 (s13 + (1 : Int))) fun x16 =>
      again (x16)
  else
    ret (.inl ())
def ref10_Few (K : Nat) (a0 : Sl) : G (Bool) :=
  bnd (
    loopG (ref10_Few_l0 K a0) K ((0 : Int))) (sumK fun (s17 : Unit) =>
  lt (decide ((a0.n : Int) ≤ (40 : Int))) fun x18 =>
  ret x18)
set_option maxRecDepth 100000 in
theorem ref10_Few_ref (K : Nat) (a0 : Sl) : Does Try.prog 11 [.slice a0.a a0.n a0.c] (ref10_Few K a0) (fun r => .bool r) := by
  refine Does.of Try.func11 rfl rfl rfl ?_
  unfold ref10_Few
  refine RefC.seq ?_
  refine RefC.region ?_
  refine RefL.pure rfl rfl (RanP.assign rfl) ?_
  refine RefL.nil ?_
  refine RefE.next ?_
  refine RefC.seq ?_
  refine RefC.seq ?_
  refine RefC.region ?_
  refine RefL.pure rfl rfl (RanP.assign rfl) ?_
  refine RefL.nil ?_
  refine RefE.next ?_
  refine RefC.cutSum (enc := fun (s17 : Unit) => ([(0, .slice a0.a a0.n a0.c)] : Env)) (KThen.mono KRet.mono) ?_ ?_
  · refine RefC.block ?_
    refine RefC.loopW (enc := fun (s13 : Int) => ([(3, .int .i64 s13), (0, .slice a0.a a0.n a0.c)] : Env)) ⟨rfl, rfl, trivial⟩ ?_ _
    intro again k ih s13
    unfold ref10_Few_l0
    refine RefC.seq ?_
    refine RefC.seq ?_
    refine RefC.region ?_
    refine RefL.pure rfl rfl (RanP.move rfl) ?_
    refine RefL.pure rfl rfl (RanP.move rfl) ?_
    refine RefL.pure rfl rfl (RanP.lenSl rfl Try.underlying22 rfl) ?_
    refine RefL.pure rfl rfl (RanP.lss rfl rfl) ?_
    refine RefL.nil ?_
    refine RefE.next ?_
    refine RefC.cond rfl ?_ ?_
    · refine RefC.skip ?_
      refine RefE.next ?_
      refine RefC.seq ?_
      refine RefC.block ?_
      refine RefC.seq ?_
      refine RefC.region ?_
      refine RefL.pure rfl rfl (RanP.move rfl) ?_
      refine RefL.pure rfl rfl (RanP.move rfl) ?_
      refine RefL.li rfl rfl (Lt.ixA Try.underlying22 Try.sizeOf9 rfl rfl fun x14 => ?_)
      refine RefL.li rfl rfl (Lt.ldS Try.isAgg9 rfl fun x15 => ?_)
      refine RefL.pure rfl rfl (RanP.lenS rfl Try.underlying9 rfl) ?_
      refine RefL.pure rfl rfl (RanP.gtr rfl rfl) ?_
      refine RefL.nil ?_
      refine RefE.next ?_
      refine RefC.cond rfl ?_ ?_
      · refine RefC.seq ?_
        refine RefC.region ?_
        refine RefL.pure rfl rfl (RanP.assign rfl) ?_
        refine RefL.nil ?_
        refine RefE.next ?_
        refine RefC.ret ?_
        refine RefE.blockRet ?_
        refine RefE.thenRet ?_
        refine RefE.roundRet ?_
        refine RefE.blockRet ?_
        refine RefE.finR ?_
        refine RefE.thenRet ?_
        refine RefE.retV rfl ?_
        refine RefV.tmp rfl ?_
        exact RefV.nil rfl
      · refine RefC.skip ?_
        refine RefE.blockNormal ?_
        refine RefE.next ?_
        refine RefC.region ?_
        refine RefL.pure rfl rfl (RanP.move rfl) ?_
        refine RefL.pure rfl rfl (RanP.add rfl rfl) ?_
        refine RefL.pure rfl rfl (RanP.assign rfl) ?_
        refine RefL.lt 3 (fun y => .int .i64 y) rfl fun x16 => ?_
        refine RefL.nil ?_
        exact RefE.again (ih (x16)) ⟨rfl, rfl, trivial⟩
    · refine RefC.exit ?_
      refine RefE.thenExit ?_
      refine RefE.roundExit ?_
      refine RefE.blockExit ?_
      exact RefE.finL (s := ()) ⟨rfl, trivial⟩
  · intro s17
    refine RefE.next ?_
    refine RefC.seq ?_
    refine RefC.region ?_
    refine RefL.pure rfl rfl (RanP.move rfl) ?_
    refine RefL.pure rfl rfl (RanP.lenSl rfl Try.underlying22 rfl) ?_
    refine RefL.pure rfl rfl (RanP.leq rfl rfl) ?_
    refine RefL.pure rfl rfl (RanP.assign rfl) ?_
    refine RefL.lt 2 (fun y => .bool y) rfl fun x18 => ?_
    refine RefL.nil ?_
    refine RefE.next ?_
    refine RefC.ret ?_
    refine RefE.retV rfl ?_
    refine RefV.tmp rfl ?_
    exact RefV.nil rfl

def ref12_Same_l0 (K : Nat) (a0 : Sl) (a1 : Sl) (again : Int → G (Unit ⊕ Bool)) (s19 : Int) : G (Unit ⊕ Bool) :=
  if (decide (s19 < (a0.n : Int))) = true then
    drw <|
    ixA a0 s19 3 fun x20 =>
    ldG (α := Tapi_Event) x20 fun x21 =>
    ixA a1 s19 3 fun x22 =>
    ldG (α := Tapi_Event) x22 fun x23 =>
    if (!Tapi_Event.eqb x21 x23) = true then
      inr (ret false)
    else
      lt (IntKind.wrap .i64 (s19 + (1 : Int))) fun x24 =>
      again (x24)
  else
    ret (.inl ())
def ref12_Same (K : Nat) (a0 : Sl) (a1 : Sl) : G (Bool) :=
  if ((a0.n : Int) != (a1.n : Int)) = true then
    ret false
  else
    bnd (
      loopG (ref12_Same_l0 K a0 a1) K ((0 : Int))) (sumK fun (s25 : Unit) =>
    ret true)
set_option maxRecDepth 100000 in
theorem ref12_Same_ref (K : Nat) (a0 : Sl) (a1 : Sl) : Does Try.prog 13 [.slice a0.a a0.n a0.c, .slice a1.a a1.n a1.c] (ref12_Same K a0 a1) (fun r => .bool r) := by
  refine Does.of Try.func13 rfl rfl rfl ?_
  unfold ref12_Same
  refine RefC.seq ?_
  refine RefC.region ?_
  refine RefL.pure rfl rfl (RanP.assign rfl) ?_
  refine RefL.nil ?_
  refine RefE.next ?_
  refine RefC.seq ?_
  refine RefC.seq ?_
  refine RefC.region ?_
  refine RefL.pure rfl rfl (RanP.move rfl) ?_
  refine RefL.pure rfl rfl (RanP.lenSl rfl Try.underlying34 rfl) ?_
  refine RefL.pure rfl rfl (RanP.move rfl) ?_
  refine RefL.pure rfl rfl (RanP.lenSl rfl Try.underlying34 rfl) ?_
  refine RefL.pure rfl rfl (RanP.neq rfl rfl) ?_
  refine RefL.nil ?_
  refine RefE.next ?_
  refine RefC.cond rfl ?_ ?_
  · refine RefC.seq ?_
    refine RefC.region ?_
    refine RefL.pure rfl rfl (RanP.assign rfl) ?_
    refine RefL.nil ?_
    refine RefE.next ?_
    refine RefC.ret ?_
    refine RefE.thenRet ?_
    refine RefE.retV rfl ?_
    refine RefV.tmp rfl ?_
    exact RefV.nil rfl
  · refine RefC.skip ?_
    refine RefE.next ?_
    refine RefC.seq ?_
    refine RefC.seq ?_
    refine RefC.region ?_
    refine RefL.pure rfl rfl (RanP.assign rfl) ?_
    refine RefL.nil ?_
    refine RefE.next ?_
    refine RefC.cutSum (enc := fun (s25 : Unit) => ([] : Env)) (KThen.mono KRet.mono) ?_ ?_
    · refine RefC.block ?_
      refine RefC.loopW (enc := fun (s19 : Int) => ([(5, .int .i64 s19), (0, .slice a0.a a0.n a0.c), (1, .slice a1.a a1.n a1.c)] : Env)) ⟨rfl, rfl, rfl, trivial⟩ ?_ _
      intro again k ih s19
      unfold ref12_Same_l0
      refine RefC.seq ?_
      refine RefC.seq ?_
      refine RefC.region ?_
      refine RefL.pure rfl rfl (RanP.move rfl) ?_
      refine RefL.pure rfl rfl (RanP.move rfl) ?_
      refine RefL.pure rfl rfl (RanP.lenSl rfl Try.underlying34 rfl) ?_
      refine RefL.pure rfl rfl (RanP.lss rfl rfl) ?_
      refine RefL.nil ?_
      refine RefE.next ?_
      refine RefC.cond rfl ?_ ?_
      · refine RefC.skip ?_
        refine RefE.next ?_
        refine RefC.seq ?_
        refine RefC.block ?_
        refine RefC.seq ?_
        refine RefC.draw mixed [0, 0, 3, 7, 0, 0, 48, 112, 255] [.lp 0, .lp 1, .lp 2, .li 3, .lp 4, .lp 5, .lp 6, .li 7, .lp 8] (by kernel_rfl) ?_
        refine RefD.pure (at_ rfl) rfl (RanP.move rfl) ?_
        refine RefD.pure (at_ rfl) rfl (RanP.move rfl) ?_
        refine RefD.any (at_ rfl) rfl (Lt.ixA Try.underlying34 Try.sizeOf47 rfl rfl fun x20 => ?_)
        refine RefD.li0 (at_ rfl) rfl (Lt.ldG (τ := Tapi_Event) Try.isAgg47 Try.sizeOf47 rfl fun x21 => ?_)
        refine RefD.pure (at_ rfl) rfl (RanP.move rfl) ?_
        refine RefD.pure (at_ rfl) rfl (RanP.move rfl) ?_
        refine RefD.any (at_ rfl) rfl (Lt.ixA Try.underlying34 Try.sizeOf47 rfl rfl fun x22 => ?_)
        refine RefD.li0 (at_ rfl) rfl (Lt.ldG (τ := Tapi_Event) Try.isAgg47 Try.sizeOf47 rfl fun x23 => ?_)
        refine RefD.pure (at_ rfl) rfl (RanP.neqA (ne_47_run x21 x23) rfl rfl) ?_
        refine RefD.nil ?_
        refine RefE.next ?_
        refine RefC.cond rfl ?_ ?_
        · refine RefC.seq ?_
          refine RefC.region ?_
          refine RefL.pure rfl rfl (RanP.assign rfl) ?_
          refine RefL.nil ?_
          refine RefE.next ?_
          refine RefC.ret ?_
          refine RefE.blockRet ?_
          refine RefE.thenRet ?_
          refine RefE.roundRet ?_
          refine RefE.blockRet ?_
          refine RefE.finR ?_
          refine RefE.thenRet ?_
          refine RefE.retV rfl ?_
          refine RefV.tmp rfl ?_
          exact RefV.nil rfl
        · refine RefC.skip ?_
          refine RefE.blockNormal ?_
          refine RefE.next ?_
          refine RefC.region ?_
          refine RefL.pure rfl rfl (RanP.move rfl) ?_
          refine RefL.pure rfl rfl (RanP.add rfl rfl) ?_
          refine RefL.pure rfl rfl (RanP.assign rfl) ?_
          refine RefL.lt 5 (fun y => .int .i64 y) rfl fun x24 => ?_
          refine RefL.nil ?_
          exact RefE.again (ih (x24)) ⟨rfl, rfl, rfl, trivial⟩
      · refine RefC.exit ?_
        refine RefE.thenExit ?_
        refine RefE.roundExit ?_
        refine RefE.blockExit ?_
        exact RefE.finL (s := ()) trivial
    · intro s25
      refine RefE.next ?_
      refine RefC.seq ?_
      refine RefC.region ?_
      refine RefL.pure rfl rfl (RanP.assign rfl) ?_
      refine RefL.nil ?_
      refine RefE.next ?_
      refine RefC.ret ?_
      refine RefE.retV rfl ?_
      refine RefV.tmp rfl ?_
      exact RefV.nil rfl

def law16_LegReads_l0 (K : Nat) (x21 : Sl) (x4 : Option Addr × Int) (again : (ByteArray × Sl × Int) → G (ByteArray × Sl)) (s55 : ByteArray × Sl × Int) : G (ByteArray × Sl) :=
  if (decide (s55.2.2 < (x21.n : Int))) = true then
    ixA x21 s55.2.2 1 fun x56 =>
    ldS x56 fun x57 =>
    chk (s55.1.size + x57.size ≤ 9223372036854775807) <|
    lt (s55.1 ++ x57) fun x59 =>
    ixA x21 s55.2.2 1 fun x60 =>
    ldS x60 fun x61 =>
    bytesOf 5 x61 fun x62 =>
    bnd (leg_Leg_Feed K x4.1 x62) fun x63 =>
    appS 47 3 32 [.int .i64 (0 : Int), .int .i64 (0 : Int), .string (ByteArray.mk #[])] s55.2.1 x63 fun x64 =>
    lt (IntKind.wrap .i64 (s55.2.2 + (1 : Int))) fun x65 =>
    again (x59, x64, x65)
  else
    ret (s55.1, s55.2.1)
def law16_LegReads (K : Nat) (a0 : Bool) (a1 : Sl) (a2 : Sl) : G (Bool) :=
  bnd (law16_Config K (250 : Int) (50 : Int) (250 : Int)) fun x1 =>
  new [.slice Sl.nil.a Sl.nil.n Sl.nil.c, .slice Sl.nil.a Sl.nil.n Sl.nil.c, .int .i64 (0 : Int), .int .i64 (0 : Int), .int .i64 (0 : Int), .int .i64 (0 : Int), .int .i64 (0 : Int), .int .i64 (0 : Int), .int .i64 (0 : Int), .int .i64 (0 : Int), .int .i64 (0 : Int), .int .i64 (0 : Int)] 25 fun x2 =>
  st x2 (.agg (Agg.cells x1).toArray) <|
  ldG (α := Tapi_Config) x2 fun x3 =>
  bnd (leg_New K x3 a0 (1 : Int)) fun x4 =>
  ldG (α := Tapi_Config) x2 fun x5 =>
  bnd (leg_New K x5 a0 (1 : Int)) fun x6 =>
  bnd (law16_awake K) fun x7 =>
  bnd (
    if (!x7) = true then
      ret true
    else
      ret (x4.2 != (0 : Int))) fun (x8 : Bool) =>
  bnd (
    if x8 = true then
      ret true
    else
      ret (x6.2 != (0 : Int))) fun (x9 : Bool) =>
  bnd (
    if x9 = true then
      ret true
    else
      ret (Option.isNone x4.1)) fun (x10 : Bool) =>
  bnd (
    if x10 = true then
      ret true
    else
      ret (Option.isNone x6.1)) fun (x11 : Bool) =>
  bnd (
    if x11 = true then
      ret true
    else
      bnd (ref10_Few K a1) fun x13 =>
      ret (!x13)) fun (x12 : Bool) =>
  bnd (
    if x12 = true then
      ret true
    else
      bnd (ref10_Few K a2) fun x15 =>
      ret (!x15)) fun (x14 : Bool) =>
  if x14 = true then
    bnd (law16_awake K) fun x16 =>
    ret x16
  else
    new [] 47 fun x17 =>
    lt (ByteArray.mk #[]) fun x18 =>
    new [] 9 fun x19 =>
    appS 9 1 16 [.string (ByteArray.mk #[])] (Sl.mk (some x19) 0 0) a1 fun x20 =>
    appS 9 1 16 [.string (ByteArray.mk #[])] x20 a2 fun x21 =>
    bnd (
      loopG (law16_LegReads_l0 K x21 x4) K (x18, (Sl.mk (some x17) 0 0), (0 : Int))) fun (s66 : ByteArray × Sl) =>
    bytesOf 5 s66.1 fun x67 =>
    bnd (leg_Leg_Feed K x6.1 x67) fun x68 =>
    bnd (ref12_Same K s66.2 x68) fun x69 =>
    bnd (
      if x69 = true then
        bnd (leg_Leg_Wrong K x4.1) fun x71 =>
        bnd (leg_Leg_Wrong K x6.1) fun x72 =>
        ret (x71 == x72)
      else
        ret false) fun (x70 : Bool) =>
    bnd (
      if x70 = true then
        bnd (leg_Leg_Got K x4.1) fun x74 =>
        bnd (leg_Leg_Got K x6.1) fun x75 =>
        ret (x74 == x75)
      else
        ret false) fun (x73 : Bool) =>
    bnd (
      if x73 = true then
        bnd (leg_Leg_Sent K x4.1) fun x77 =>
        bnd (leg_Leg_Sent K x6.1) fun x78 =>
        ret (x77 == x78)
      else
        ret false) fun (x76 : Bool) =>
    ret x76
set_option maxRecDepth 100000 in
theorem law16_LegReads_ref (K : Nat) (a0 : Bool) (a1 : Sl) (a2 : Sl) : Does Try.prog 3 [.bool a0, .slice a1.a a1.n a1.c, .slice a2.a a2.n a2.c] (law16_LegReads K a0 a1 a2) (fun r => .bool r) := by
  refine Does.of Try.func3 rfl rfl rfl ?_
  unfold law16_LegReads
  refine RefC.seq ?_
  refine RefC.region ?_
  refine RefL.pure rfl rfl (RanP.assign rfl) ?_
  refine RefL.nil ?_
  refine RefE.next ?_
  refine RefC.seq ?_
  refine RefC.region ?_
  refine RefL.hv rfl rfl (Hv.call (law16_Config_ref K (250 : Int) (50 : Int) (250 : Int)) Try.call8 rfl rfl rfl fun x1 => ?_)
  refine RefL.hv rfl rfl (Hv.newZ Try.zeroValue25 rfl fun x2 => ?_)
  refine RefL.hv rfl rfl (Hv.st Try.sizeOf25 rfl rfl rfl ?_)
  refine RefL.nil ?_
  refine RefE.next ?_
  refine RefC.seq ?_
  refine RefC.region ?_
  refine RefL.li rfl rfl (Lt.ldG (τ := Tapi_Config) Try.isAgg25 Try.sizeOf25 rfl fun x3 => ?_)
  refine RefL.pure rfl rfl (RanP.move rfl) ?_
  refine RefL.hv rfl rfl (Hv.call (leg_New_ref K x3 a0 (1 : Int)) Try.call9 rfl rfl rfl fun x4 => ?_)
  refine RefL.pure rfl rfl (RanP.move rfl) ?_
  refine RefL.pure rfl rfl (RanP.extract rfl rfl) ?_
  refine RefL.pure rfl rfl (RanP.extract rfl rfl) ?_
  refine RefL.pure rfl rfl (RanP.assign rfl) ?_
  refine RefL.pure rfl rfl (RanP.assign rfl) ?_
  refine RefL.nil ?_
  refine RefE.next ?_
  refine RefC.seq ?_
  refine RefC.region ?_
  refine RefL.li rfl rfl (Lt.ldG (τ := Tapi_Config) Try.isAgg25 Try.sizeOf25 rfl fun x5 => ?_)
  refine RefL.pure rfl rfl (RanP.move rfl) ?_
  refine RefL.hv rfl rfl (Hv.call (leg_New_ref K x5 a0 (1 : Int)) Try.call9 rfl rfl rfl fun x6 => ?_)
  refine RefL.pure rfl rfl (RanP.move rfl) ?_
  refine RefL.pure rfl rfl (RanP.extract rfl rfl) ?_
  refine RefL.pure rfl rfl (RanP.extract rfl rfl) ?_
  refine RefL.pure rfl rfl (RanP.assign rfl) ?_
  refine RefL.pure rfl rfl (RanP.assign rfl) ?_
  refine RefL.nil ?_
  refine RefE.next ?_
  refine RefC.seq ?_
  refine RefC.seq ?_
  refine RefC.region ?_
  refine RefL.hv rfl rfl (Hv.call (law16_awake_ref K) Try.call10 rfl rfl rfl fun x7 => ?_)
  refine RefL.pure rfl rfl (RanP.not rfl) ?_
  refine RefL.pure rfl rfl (RanP.move rfl) ?_
  refine RefL.cut (enc := fun (x8 : Bool) => ([(34, .bool x8), (1, .slice a1.a a1.n a1.c), (2, .slice a2.a a2.n a2.c), (8, .pointer x4.1), (10, .pointer x6.1), (11, .int .i64 x6.2)] : Env)) 3 ?_ ?_
  · refine RefL.ite (s := 31) rfl ?_ ?_
    · refine RefL.skip rfl rfl ?_
      refine RefL.skip rfl rfl ?_
      refine RefL.pure rfl rfl (RanP.pickT rfl rfl) ?_
      refine RefL.nil ?_
      exact RefE.fin (s := true) ⟨rfl, rfl, rfl, rfl, rfl, rfl, trivial⟩
    · refine RefL.pure rfl rfl (RanP.move rfl) ?_
      refine RefL.pure rfl rfl (RanP.neq rfl rfl) ?_
      refine RefL.pure rfl rfl (RanP.pickF rfl rfl) ?_
      refine RefL.nil ?_
      exact RefE.fin (s := (x4.2 != (0 : Int))) ⟨rfl, rfl, rfl, rfl, rfl, rfl, trivial⟩
  · intro x8
    refine RefL.pure rfl rfl (RanP.move rfl) ?_
    refine RefL.cut (enc := fun (x9 : Bool) => ([(38, .bool x9), (1, .slice a1.a a1.n a1.c), (2, .slice a2.a a2.n a2.c), (8, .pointer x4.1), (10, .pointer x6.1)] : Env)) 3 ?_ ?_
    · refine RefL.ite (s := 35) rfl ?_ ?_
      · refine RefL.skip rfl rfl ?_
        refine RefL.skip rfl rfl ?_
        refine RefL.pure rfl rfl (RanP.pickT rfl rfl) ?_
        refine RefL.nil ?_
        exact RefE.fin (s := true) ⟨rfl, rfl, rfl, rfl, rfl, trivial⟩
      · refine RefL.pure rfl rfl (RanP.move rfl) ?_
        refine RefL.pure rfl rfl (RanP.neq rfl rfl) ?_
        refine RefL.pure rfl rfl (RanP.pickF rfl rfl) ?_
        refine RefL.nil ?_
        exact RefE.fin (s := (x6.2 != (0 : Int))) ⟨rfl, rfl, rfl, rfl, rfl, trivial⟩
    · intro x9
      refine RefL.pure rfl rfl (RanP.move rfl) ?_
      refine RefL.cut (enc := fun (x10 : Bool) => ([(42, .bool x10), (1, .slice a1.a a1.n a1.c), (2, .slice a2.a a2.n a2.c), (8, .pointer x4.1), (10, .pointer x6.1)] : Env)) 3 ?_ ?_
      · refine RefL.ite (s := 39) rfl ?_ ?_
        · refine RefL.skip rfl rfl ?_
          refine RefL.skip rfl rfl ?_
          refine RefL.pure rfl rfl (RanP.pickT rfl rfl) ?_
          refine RefL.nil ?_
          exact RefE.fin (s := true) ⟨rfl, rfl, rfl, rfl, rfl, trivial⟩
        · refine RefL.pure rfl rfl (RanP.move rfl) ?_
          refine RefL.pure rfl rfl (RanP.eqlNil Try.underlying27 rfl rfl) ?_
          refine RefL.pure rfl rfl (RanP.pickF rfl rfl) ?_
          refine RefL.nil ?_
          exact RefE.fin (s := (Option.isNone x4.1)) ⟨rfl, rfl, rfl, rfl, rfl, trivial⟩
      · intro x10
        refine RefL.pure rfl rfl (RanP.move rfl) ?_
        refine RefL.cut (enc := fun (x11 : Bool) => ([(46, .bool x11), (1, .slice a1.a a1.n a1.c), (2, .slice a2.a a2.n a2.c), (8, .pointer x4.1), (10, .pointer x6.1)] : Env)) 3 ?_ ?_
        · refine RefL.ite (s := 43) rfl ?_ ?_
          · refine RefL.skip rfl rfl ?_
            refine RefL.skip rfl rfl ?_
            refine RefL.pure rfl rfl (RanP.pickT rfl rfl) ?_
            refine RefL.nil ?_
            exact RefE.fin (s := true) ⟨rfl, rfl, rfl, rfl, rfl, trivial⟩
          · refine RefL.pure rfl rfl (RanP.move rfl) ?_
            refine RefL.pure rfl rfl (RanP.eqlNil Try.underlying27 rfl rfl) ?_
            refine RefL.pure rfl rfl (RanP.pickF rfl rfl) ?_
            refine RefL.nil ?_
            exact RefE.fin (s := (Option.isNone x6.1)) ⟨rfl, rfl, rfl, rfl, rfl, trivial⟩
        · intro x11
          refine RefL.pure rfl rfl (RanP.move rfl) ?_
          refine RefL.cut (enc := fun (x12 : Bool) => ([(51, .bool x12), (1, .slice a1.a a1.n a1.c), (2, .slice a2.a a2.n a2.c), (8, .pointer x4.1), (10, .pointer x6.1)] : Env)) 4 ?_ ?_
          · refine RefL.ite (s := 47) rfl ?_ ?_
            · refine RefL.skip rfl rfl ?_
              refine RefL.skip rfl rfl ?_
              refine RefL.skip rfl rfl ?_
              refine RefL.pure rfl rfl (RanP.pickT rfl rfl) ?_
              refine RefL.nil ?_
              exact RefE.fin (s := true) ⟨rfl, rfl, rfl, rfl, rfl, trivial⟩
            · refine RefL.pure rfl rfl (RanP.move rfl) ?_
              refine RefL.hv rfl rfl (Hv.call (ref10_Few_ref K a1) Try.call11 rfl rfl rfl fun x13 => ?_)
              refine RefL.pure rfl rfl (RanP.not rfl) ?_
              refine RefL.pure rfl rfl (RanP.pickF rfl rfl) ?_
              refine RefL.nil ?_
              exact RefE.fin (s := (!x13)) ⟨rfl, rfl, rfl, rfl, rfl, trivial⟩
          · intro x12
            refine RefL.pure rfl rfl (RanP.move rfl) ?_
            refine RefL.cut (enc := fun (x14 : Bool) => ([(56, .bool x14), (1, .slice a1.a a1.n a1.c), (2, .slice a2.a a2.n a2.c), (8, .pointer x4.1), (10, .pointer x6.1)] : Env)) 4 ?_ ?_
            · refine RefL.ite (s := 52) rfl ?_ ?_
              · refine RefL.skip rfl rfl ?_
                refine RefL.skip rfl rfl ?_
                refine RefL.skip rfl rfl ?_
                refine RefL.pure rfl rfl (RanP.pickT rfl rfl) ?_
                refine RefL.nil ?_
                exact RefE.fin (s := true) ⟨rfl, rfl, rfl, rfl, rfl, trivial⟩
              · refine RefL.pure rfl rfl (RanP.move rfl) ?_
                refine RefL.hv rfl rfl (Hv.call (ref10_Few_ref K a2) Try.call11 rfl rfl rfl fun x15 => ?_)
                refine RefL.pure rfl rfl (RanP.not rfl) ?_
                refine RefL.pure rfl rfl (RanP.pickF rfl rfl) ?_
                refine RefL.nil ?_
                exact RefE.fin (s := (!x15)) ⟨rfl, rfl, rfl, rfl, rfl, trivial⟩
            · intro x14
              refine RefL.nil ?_
              refine RefE.next ?_
              refine RefC.cond rfl ?_ ?_
              · refine RefC.seq ?_
                refine RefC.region ?_
                refine RefL.hv rfl rfl (Hv.call (law16_awake_ref K) Try.call10 rfl rfl rfl fun x16 => ?_)
                refine RefL.pure rfl rfl (RanP.assign rfl) ?_
                refine RefL.nil ?_
                refine RefE.next ?_
                refine RefC.ret ?_
                refine RefE.thenRet ?_
                refine RefE.retV rfl ?_
                refine RefV.tmp rfl ?_
                exact RefV.nil rfl
              · refine RefC.skip ?_
                refine RefE.next ?_
                refine RefC.seq ?_
                refine RefC.region ?_
                refine RefL.hv rfl rfl (Hv.buildSlice rfl (cs := []) (e := 47) (fun _ => by kernel_rfl) fun x17 => ?_)
                refine RefL.pure rfl rfl (RanP.assign rfl) ?_
                refine RefL.lt 12 (fun y => .string y) rfl fun x18 => ?_
                refine RefL.pure rfl rfl (RanP.assign rfl) ?_
                refine RefL.nil ?_
                refine RefE.next ?_
                refine RefC.seq ?_
                refine RefC.region ?_
                refine RefL.hv rfl rfl (Hv.buildSlice rfl (cs := []) (e := 9) (fun _ => by kernel_rfl) fun x19 => ?_)
                refine RefL.pure rfl rfl (RanP.move rfl) ?_
                refine RefL.hv rfl rfl (Hv.appS (i := Try.t9) rfl Try.underlying22 Try.underlying22 rfl rfl rfl rfl fun x20 => ?_)
                refine RefL.pure rfl rfl (RanP.move rfl) ?_
                refine RefL.hv rfl rfl (Hv.appS (i := Try.t9) rfl Try.underlying22 Try.underlying22 rfl rfl rfl rfl fun x21 => ?_)
                refine RefL.pure rfl rfl (RanP.assign rfl) ?_
                refine RefL.nil ?_
                refine RefE.next ?_
                refine RefC.seq ?_
                refine RefC.seq ?_
                refine RefC.region ?_
                refine RefL.pure rfl rfl (RanP.assign rfl) ?_
                refine RefL.nil ?_
                refine RefE.next ?_
                refine RefC.cut (enc := fun (s66 : ByteArray × Sl) => ([(12, .string s66.1), (13, .slice s66.2.a s66.2.n s66.2.c), (8, .pointer x4.1), (10, .pointer x6.1)] : Env)) ?_ ?_
                · refine RefC.block ?_
                  refine RefC.loopW (enc := fun (s55 : ByteArray × Sl × Int) => ([(12, .string s55.1), (13, .slice s55.2.1.a s55.2.1.n s55.2.1.c), (15, .int .i64 s55.2.2), (8, .pointer x4.1), (10, .pointer x6.1), (14, .slice x21.a x21.n x21.c)] : Env)) ⟨rfl, rfl, rfl, rfl, rfl, rfl, trivial⟩ ?_ _
                  intro again k ih s55
                  unfold law16_LegReads_l0
                  refine RefC.seq ?_
                  refine RefC.seq ?_
                  refine RefC.region ?_
                  refine RefL.pure rfl rfl (RanP.move rfl) ?_
                  refine RefL.pure rfl rfl (RanP.move rfl) ?_
                  refine RefL.pure rfl rfl (RanP.lenSl rfl Try.underlying22 rfl) ?_
                  refine RefL.pure rfl rfl (RanP.lss rfl rfl) ?_
                  refine RefL.nil ?_
                  refine RefE.next ?_
                  refine RefC.cond rfl ?_ ?_
                  · refine RefC.skip ?_
                    refine RefE.next ?_
                    refine RefC.seq ?_
                    refine RefC.block ?_
                    refine RefC.seq ?_
                    refine RefC.region ?_
                    refine RefL.pure rfl rfl (RanP.move rfl) ?_
                    refine RefL.pure rfl rfl (RanP.move rfl) ?_
                    refine RefL.pure rfl rfl (RanP.move rfl) ?_
                    refine RefL.li rfl rfl (Lt.ixA Try.underlying22 Try.sizeOf9 rfl rfl fun x56 => ?_)
                    refine RefL.li rfl rfl (Lt.ldS Try.isAgg9 rfl fun x57 => ?_)
                    refine RefL.chk fun h58 => ?_
                    refine RefL.pure rfl rfl (RanP.addS h58 rfl rfl) ?_
                    refine RefL.pure rfl rfl (RanP.assign rfl) ?_
                    refine RefL.lt 12 (fun y => .string y) rfl fun x59 => ?_
                    refine RefL.nil ?_
                    refine RefE.next ?_
                    refine RefC.region ?_
                    refine RefL.pure rfl rfl (RanP.move rfl) ?_
                    refine RefL.pure rfl rfl (RanP.move rfl) ?_
                    refine RefL.pure rfl rfl (RanP.move rfl) ?_
                    refine RefL.pure rfl rfl (RanP.move rfl) ?_
                    refine RefL.li rfl rfl (Lt.ixA Try.underlying22 Try.sizeOf9 rfl rfl fun x60 => ?_)
                    refine RefL.li rfl rfl (Lt.ldS Try.isAgg9 rfl fun x61 => ?_)
                    refine RefL.hv rfl rfl (Hv.bytesOf Try.underlying9 Try.underlying36 Try.underlying5 rfl fun x62 => ?_)
                    refine RefL.hv rfl rfl (Hv.call (leg_Leg_Feed_ref K x4.1 x62) Try.call12 rfl rfl rfl fun x63 => ?_)
                    refine RefL.hv rfl rfl (Hv.appS (i := Try.t47) rfl Try.underlying34 Try.underlying34 rfl rfl rfl rfl fun x64 => ?_)
                    refine RefL.pure rfl rfl (RanP.assign rfl) ?_
                    refine RefL.nil ?_
                    refine RefE.blockNormal ?_
                    refine RefE.next ?_
                    refine RefC.region ?_
                    refine RefL.pure rfl rfl (RanP.move rfl) ?_
                    refine RefL.pure rfl rfl (RanP.add rfl rfl) ?_
                    refine RefL.pure rfl rfl (RanP.assign rfl) ?_
                    refine RefL.lt 15 (fun y => .int .i64 y) rfl fun x65 => ?_
                    refine RefL.nil ?_
                    exact RefE.again (ih (x59, x64, x65)) ⟨rfl, rfl, rfl, rfl, rfl, rfl, trivial⟩
                  · refine RefC.exit ?_
                    refine RefE.thenExit ?_
                    refine RefE.roundExit ?_
                    refine RefE.blockExit ?_
                    exact RefE.fin (s := (s55.1, s55.2.1)) ⟨rfl, rfl, rfl, rfl, trivial⟩
                · intro s66
                  refine RefE.next ?_
                  refine RefC.seq ?_
                  refine RefC.region ?_
                  refine RefL.pure rfl rfl (RanP.move rfl) ?_
                  refine RefL.pure rfl rfl (RanP.move rfl) ?_
                  refine RefL.pure rfl rfl (RanP.move rfl) ?_
                  refine RefL.hv rfl rfl (Hv.bytesOf Try.underlying9 Try.underlying36 Try.underlying5 rfl fun x67 => ?_)
                  refine RefL.hv rfl rfl (Hv.call (leg_Leg_Feed_ref K x6.1 x67) Try.call12 rfl rfl rfl fun x68 => ?_)
                  refine RefL.hv rfl rfl (Hv.call (ref12_Same_ref K s66.2 x68) Try.call13 rfl rfl rfl fun x69 => ?_)
                  refine RefL.pure rfl rfl (RanP.move rfl) ?_
                  refine RefL.cut (enc := fun (x70 : Bool) => ([(97, .bool x70), (8, .pointer x4.1), (10, .pointer x6.1)] : Env)) 6 ?_ ?_
                  · refine RefL.ite (s := 91) rfl ?_ ?_
                    · refine RefL.pure rfl rfl (RanP.move rfl) ?_
                      refine RefL.hv rfl rfl (Hv.call (leg_Leg_Wrong_ref K x4.1) Try.call14 rfl rfl rfl fun x71 => ?_)
                      refine RefL.pure rfl rfl (RanP.move rfl) ?_
                      refine RefL.hv rfl rfl (Hv.call (leg_Leg_Wrong_ref K x6.1) Try.call14 rfl rfl rfl fun x72 => ?_)
                      refine RefL.pure rfl rfl (RanP.eql rfl rfl) ?_
                      refine RefL.pure rfl rfl (RanP.pickT rfl rfl) ?_
                      refine RefL.nil ?_
                      exact RefE.fin (s := (x71 == x72)) ⟨rfl, rfl, rfl, trivial⟩
                    · refine RefL.skip rfl rfl ?_
                      refine RefL.skip rfl rfl ?_
                      refine RefL.skip rfl rfl ?_
                      refine RefL.skip rfl rfl ?_
                      refine RefL.skip rfl rfl ?_
                      refine RefL.pure rfl rfl (RanP.pickF rfl rfl) ?_
                      refine RefL.nil ?_
                      exact RefE.fin (s := false) ⟨rfl, rfl, rfl, trivial⟩
                  · intro x70
                    refine RefL.pure rfl rfl (RanP.move rfl) ?_
                    refine RefL.cut (enc := fun (x73 : Bool) => ([(104, .bool x73), (8, .pointer x4.1), (10, .pointer x6.1)] : Env)) 6 ?_ ?_
                    · refine RefL.ite (s := 98) rfl ?_ ?_
                      · refine RefL.pure rfl rfl (RanP.move rfl) ?_
                        refine RefL.hv rfl rfl (Hv.call (leg_Leg_Got_ref K x4.1) Try.call15 rfl rfl rfl fun x74 => ?_)
                        refine RefL.pure rfl rfl (RanP.move rfl) ?_
                        refine RefL.hv rfl rfl (Hv.call (leg_Leg_Got_ref K x6.1) Try.call15 rfl rfl rfl fun x75 => ?_)
                        refine RefL.pure rfl rfl (RanP.eqlB Try.underlying4 rfl rfl) ?_
                        refine RefL.pure rfl rfl (RanP.pickT rfl rfl) ?_
                        refine RefL.nil ?_
                        exact RefE.fin (s := (x74 == x75)) ⟨rfl, rfl, rfl, trivial⟩
                      · refine RefL.skip rfl rfl ?_
                        refine RefL.skip rfl rfl ?_
                        refine RefL.skip rfl rfl ?_
                        refine RefL.skip rfl rfl ?_
                        refine RefL.skip rfl rfl ?_
                        refine RefL.pure rfl rfl (RanP.pickF rfl rfl) ?_
                        refine RefL.nil ?_
                        exact RefE.fin (s := false) ⟨rfl, rfl, rfl, trivial⟩
                    · intro x73
                      refine RefL.pure rfl rfl (RanP.move rfl) ?_
                      refine RefL.cut (enc := fun (x76 : Bool) => ([(111, .bool x76)] : Env)) 6 ?_ ?_
                      · refine RefL.ite (s := 105) rfl ?_ ?_
                        · refine RefL.pure rfl rfl (RanP.move rfl) ?_
                          refine RefL.hv rfl rfl (Hv.call (leg_Leg_Sent_ref K x4.1) Try.call16 rfl rfl rfl fun x77 => ?_)
                          refine RefL.pure rfl rfl (RanP.move rfl) ?_
                          refine RefL.hv rfl rfl (Hv.call (leg_Leg_Sent_ref K x6.1) Try.call16 rfl rfl rfl fun x78 => ?_)
                          refine RefL.pure rfl rfl (RanP.eqlB Try.underlying4 rfl rfl) ?_
                          refine RefL.pure rfl rfl (RanP.pickT rfl rfl) ?_
                          refine RefL.nil ?_
                          exact RefE.fin (s := (x77 == x78)) ⟨rfl, trivial⟩
                        · refine RefL.skip rfl rfl ?_
                          refine RefL.skip rfl rfl ?_
                          refine RefL.skip rfl rfl ?_
                          refine RefL.skip rfl rfl ?_
                          refine RefL.skip rfl rfl ?_
                          refine RefL.pure rfl rfl (RanP.pickF rfl rfl) ?_
                          refine RefL.nil ?_
                          exact RefE.fin (s := false) ⟨rfl, trivial⟩
                      · intro x76
                        refine RefL.pure rfl rfl (RanP.assign rfl) ?_
                        refine RefL.nil ?_
                        refine RefE.next ?_
                        refine RefC.ret ?_
                        refine RefE.retV rfl ?_
                        refine RefV.tmp rfl ?_
                        exact RefV.nil rfl

end Go.Proofs.Ytjdnjlnfcbaokaa

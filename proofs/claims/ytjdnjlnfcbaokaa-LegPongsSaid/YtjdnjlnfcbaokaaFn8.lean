/-
  Go functions as programs over the world, and that the model's code does what they say. Printed by gen.py (own work).
-/
import Derived.Test.YtjdnjlnfcbaokaaFn7
set_option linter.unusedVariables false
set_option linter.unusedSimpArgs false
namespace Go.Proofs.Ytjdnjlnfcbaokaa
open Go Go.Lg

def ref10_One (K : Nat) (a0 : ByteArray) (a1 : Bool) (a2 : Int) : G (Tapi_Frame × Int × Int) :=
  new [.bool false, .int .i64 (0 : Int), .bool false, .int .u8 (0 : Int), .int .u8 (0 : Int), .int .u8 (0 : Int), .int .u8 (0 : Int), .string (ByteArray.mk #[])] 59 fun x1 =>
  bnd (
    if (decide ((0 : Int) < (a0.size : Int))) = true then
      slStr a0 none (some (1 : Int)) fun x6 =>
      bnd (ref09_Get K x6 a2) fun x7 =>
      new [.bool false, .int .i64 (0 : Int), .bool false, .int .u8 (0 : Int), .int .u8 (0 : Int), .int .u8 (0 : Int), .int .u8 (0 : Int), .string (ByteArray.mk #[])] 59 fun x8 =>
      st x8 (.agg (Agg.cells x7.1).toArray) <|
      if (x7.2.2 == (91 : Int)) = true then
        st x1 (.agg (Agg.cells (Tapi_Frame.mk false (0 : Int) false (0 : Int) (0 : Int) (0 : Int) (0 : Int) (ByteArray.mk #[]))).toArray) <|
        inr (
          ldG (α := Tapi_Frame) x1 fun r9 =>
          ret (r9, (0 : Int), x7.2.2))
      else
        ret (.inl ())
    else
      ret (.inl ())) (sumK fun (s10 : Unit) =>
  bnd (
    if (decide ((1 : Int) < (a0.size : Int))) = true then
      chk (0 ≤ (1 : Int) ∧ (1 : Int) < (a0.size : Int)) <|
      ret (!((decide ((128 : Int) ≤ (bt a0 (1 : Int)))) == a1))
    else
      ret false) fun (x11 : Bool) =>
  if x11 = true then
    st x1 (.agg (Agg.cells (Tapi_Frame.mk false (0 : Int) false (0 : Int) (0 : Int) (0 : Int) (0 : Int) (ByteArray.mk #[]))).toArray) <|
    ldG (α := Tapi_Frame) x1 fun r13 =>
    ret (r13, (0 : Int), (100 : Int))
  else
    bnd (ref09_Get K a0 a2) fun x14 =>
    st x1 (.agg (Agg.cells x14.1).toArray) <|
    ldG (α := Tapi_Frame) x1 fun r15 =>
    ret (r15, x14.2.1, x14.2.2))
set_option maxRecDepth 100000 in
theorem ref10_One_ref (K : Nat) (a0 : ByteArray) (a1 : Bool) (a2 : Int) : Does Try.prog 42 [.string a0, .bool a1, .int .i64 a2] (ref10_One K a0 a1 a2) (fun r => .tuple #[.agg (Agg.cells r.1).toArray, .int .i64 r.2.1, .int .i64 r.2.2]) := by
  refine Does.of Try.func42 rfl rfl rfl ?_
  unfold ref10_One
  refine RefC.seq ?_
  refine RefC.region ?_
  refine RefL.hv rfl rfl (Hv.newZ Try.zeroValue59 rfl fun x1 => ?_)
  refine RefL.pure rfl rfl (RanP.assign rfl) ?_
  refine RefL.pure rfl rfl (RanP.assign rfl) ?_
  refine RefL.nil ?_
  refine RefE.next ?_
  refine RefC.seq ?_
  refine RefC.seq ?_
  refine RefC.region ?_
  refine RefL.pure rfl rfl (RanP.move rfl) ?_
  refine RefL.pure rfl rfl (RanP.lenS rfl Try.underlying9 rfl) ?_
  refine RefL.pure rfl rfl (RanP.gtr rfl rfl) ?_
  refine RefL.nil ?_
  refine RefE.next ?_
  refine RefC.cutSum (enc := fun (s10 : Unit) => ([(0, .string a0), (1, .bool a1), (2, .int .i64 a2), (6, .pointer (some x1))] : Env)) (KThen.mono KRet.mono) ?_ ?_
  · refine RefC.cond rfl ?_ ?_
    · refine RefC.seq ?_
      refine RefC.region ?_
      refine RefL.pure rfl rfl (RanP.move rfl) ?_
      refine RefL.li rfl rfl (Lt.slStr (kl := .i64) (kh := .i64) Try.underlying9 rfl rfl rfl fun x6 => ?_)
      refine RefL.pure rfl rfl (RanP.move rfl) ?_
      refine RefL.hv rfl rfl (Hv.call (ref09_Get_ref K x6 a2) Try.call59 rfl rfl rfl fun x7 => ?_)
      refine RefL.pure rfl rfl (RanP.move rfl) ?_
      refine RefL.pure rfl rfl (RanP.extract rfl rfl) ?_
      refine RefL.pure rfl rfl (RanP.extract rfl rfl) ?_
      refine RefL.pure rfl rfl (RanP.extract rfl rfl) ?_
      refine RefL.hv rfl rfl (Hv.newZ Try.zeroValue59 rfl fun x8 => ?_)
      refine RefL.hv rfl rfl (Hv.st Try.sizeOf59 rfl rfl rfl ?_)
      refine RefL.pure rfl rfl (RanP.assign rfl) ?_
      refine RefL.pure rfl rfl (RanP.assign rfl) ?_
      refine RefL.nil ?_
      refine RefE.next ?_
      refine RefC.seq ?_
      refine RefC.region ?_
      refine RefL.pure rfl rfl (RanP.move rfl) ?_
      refine RefL.pure rfl rfl (RanP.eql rfl rfl) ?_
      refine RefL.nil ?_
      refine RefE.next ?_
      refine RefC.cond rfl ?_ ?_
      · refine RefC.seq ?_
        refine RefC.region ?_
        refine RefL.pure rfl rfl (RanP.build rfl (v := .agg (Agg.cells (Tapi_Frame.mk false (0 : Int) false (0 : Int) (0 : Int) (0 : Int) (0 : Int) (ByteArray.mk #[]))).toArray) (fun _ => by kernel_rfl)) ?_
        refine RefL.pure rfl rfl (RanP.move rfl) ?_
        refine RefL.hv rfl rfl (Hv.st Try.sizeOf59 rfl rfl rfl ?_)
        refine RefL.pure rfl rfl (RanP.assign rfl) ?_
        refine RefL.pure rfl rfl (RanP.assign rfl) ?_
        refine RefL.nil ?_
        refine RefE.next ?_
        refine RefC.ret ?_
        refine RefE.finR ?_
        refine RefE.thenRet ?_
        refine RefE.retV rfl ?_
        refine RefV.cellG Try.isAgg59 Try.sizeOf59 rfl fun r9 => ?_
        refine RefV.tmp rfl ?_
        refine RefV.tmp rfl ?_
        exact RefV.nil rfl
      · refine RefC.skip ?_
        exact RefE.finL (s := ()) ⟨rfl, rfl, rfl, rfl, trivial⟩
    · refine RefC.skip ?_
      exact RefE.finL (s := ()) ⟨rfl, rfl, rfl, rfl, trivial⟩
  · intro s10
    refine RefE.next ?_
    refine RefC.seq ?_
    refine RefC.seq ?_
    refine RefC.region ?_
    refine RefL.pure rfl rfl (RanP.move rfl) ?_
    refine RefL.pure rfl rfl (RanP.lenS rfl Try.underlying9 rfl) ?_
    refine RefL.pure rfl rfl (RanP.gtr rfl rfl) ?_
    refine RefL.pure rfl rfl (RanP.move rfl) ?_
    refine RefL.cut (enc := fun (x11 : Bool) => ([(36, .bool x11), (0, .string a0), (2, .int .i64 a2), (6, .pointer (some x1))] : Env)) 6 ?_ ?_
    · refine RefL.ite (s := 30) rfl ?_ ?_
      · refine RefL.pure rfl rfl (RanP.move rfl) ?_
        refine RefL.chk fun h12 => ?_
        refine RefL.pure rfl rfl (RanP.indexS h12 Try.underlying9 rfl rfl) ?_
        refine RefL.pure rfl rfl (RanP.geq rfl rfl) ?_
        refine RefL.pure rfl rfl (RanP.move rfl) ?_
        refine RefL.pure rfl rfl (RanP.neqB Try.underlying4 rfl rfl) ?_
        refine RefL.pure rfl rfl (RanP.pickT rfl rfl) ?_
        refine RefL.nil ?_
        exact RefE.fin (s := (!((decide ((128 : Int) ≤ (bt a0 (1 : Int)))) == a1))) ⟨rfl, rfl, rfl, rfl, trivial⟩
      · refine RefL.skip rfl rfl ?_
        refine RefL.skip rfl rfl ?_
        refine RefL.skip rfl rfl ?_
        refine RefL.skip rfl rfl ?_
        refine RefL.skip rfl rfl ?_
        refine RefL.pure rfl rfl (RanP.pickF rfl rfl) ?_
        refine RefL.nil ?_
        exact RefE.fin (s := false) ⟨rfl, rfl, rfl, rfl, trivial⟩
    · intro x11
      refine RefL.nil ?_
      refine RefE.next ?_
      refine RefC.cond rfl ?_ ?_
      · refine RefC.seq ?_
        refine RefC.region ?_
        refine RefL.pure rfl rfl (RanP.build rfl (v := .agg (Agg.cells (Tapi_Frame.mk false (0 : Int) false (0 : Int) (0 : Int) (0 : Int) (0 : Int) (ByteArray.mk #[]))).toArray) (fun _ => by kernel_rfl)) ?_
        refine RefL.hv rfl rfl (Hv.st Try.sizeOf59 rfl rfl rfl ?_)
        refine RefL.pure rfl rfl (RanP.assign rfl) ?_
        refine RefL.pure rfl rfl (RanP.assign rfl) ?_
        refine RefL.nil ?_
        refine RefE.next ?_
        refine RefC.ret ?_
        refine RefE.thenRet ?_
        refine RefE.retV rfl ?_
        refine RefV.cellG Try.isAgg59 Try.sizeOf59 rfl fun r13 => ?_
        refine RefV.tmp rfl ?_
        refine RefV.tmp rfl ?_
        exact RefV.nil rfl
      · refine RefC.skip ?_
        refine RefE.next ?_
        refine RefC.seq ?_
        refine RefC.region ?_
        refine RefL.pure rfl rfl (RanP.move rfl) ?_
        refine RefL.pure rfl rfl (RanP.move rfl) ?_
        refine RefL.hv rfl rfl (Hv.call (ref09_Get_ref K a0 a2) Try.call59 rfl rfl rfl fun x14 => ?_)
        refine RefL.pure rfl rfl (RanP.extract rfl rfl) ?_
        refine RefL.pure rfl rfl (RanP.extract rfl rfl) ?_
        refine RefL.pure rfl rfl (RanP.extract rfl rfl) ?_
        refine RefL.hv rfl rfl (Hv.st Try.sizeOf59 rfl rfl rfl ?_)
        refine RefL.pure rfl rfl (RanP.assign rfl) ?_
        refine RefL.pure rfl rfl (RanP.assign rfl) ?_
        refine RefL.nil ?_
        refine RefE.next ?_
        refine RefC.ret ?_
        refine RefE.retV rfl ?_
        refine RefV.cellG Try.isAgg59 Try.sizeOf59 rfl fun r15 => ?_
        refine RefV.tmp rfl ?_
        refine RefV.tmp rfl ?_
        exact RefV.nil rfl

def ref10_All_l0 (K : Nat) (a1 : Bool) (a2 : Int) (again : (ByteArray × Sl) → G (Sl × Int × Int)) (s10 : ByteArray × Sl) : G (Sl × Int × Int) :=
  bnd (ref10_One K s10.1 a1 a2) fun x11 =>
  new [.bool false, .int .i64 (0 : Int), .bool false, .int .u8 (0 : Int), .int .u8 (0 : Int), .int .u8 (0 : Int), .int .u8 (0 : Int), .string (ByteArray.mk #[])] 59 fun x12 =>
  st x12 (.agg (Agg.cells x11.1).toArray) <|
  if (x11.2.2 == (90 : Int)) = true then
    lt (s10.1.size : Int) fun x13 =>
    ret (s10.2, (0 : Int), x13)
  else
    if (x11.2.2 != (0 : Int)) = true then
      ret (s10.2, x11.2.2, (0 : Int))
    else
      drw <|
      ldG (α := Tapi_Frame) x12 fun x14 =>
      slStr s10.1 (some x11.2.1) none fun x15 =>
      new (Agg.cells x14) 59 fun x16 =>
      appS 59 8 40 [.bool false, .int .i64 (0 : Int), .bool false, .int .u8 (0 : Int), .int .u8 (0 : Int), .int .u8 (0 : Int), .int .u8 (0 : Int), .string (ByteArray.mk #[])] s10.2 (Sl.mk (some x16) 1 1) fun x17 =>
      again (x15, x17)
def ref10_All (K : Nat) (a0 : ByteArray) (a1 : Bool) (a2 : Int) : G (Sl × Int × Int) :=
  new [] 59 fun x1 =>
  loopG (ref10_All_l0 K a1 a2) K (a0, (Sl.mk (some x1) 0 0))
set_option maxRecDepth 100000 in
theorem ref10_All_ref (K : Nat) (a0 : ByteArray) (a1 : Bool) (a2 : Int) : Does Try.prog 25 [.string a0, .bool a1, .int .i64 a2] (ref10_All K a0 a1 a2) (fun r => .tuple #[.slice r.1.a r.1.n r.1.c, .int .i64 r.2.1, .int .i64 r.2.2]) := by
  refine Does.of Try.func25 rfl rfl rfl ?_
  unfold ref10_All
  refine RefC.seq ?_
  refine RefC.region ?_
  refine RefL.pure rfl rfl (RanP.assign rfl) ?_
  refine RefL.pure rfl rfl (RanP.assign rfl) ?_
  refine RefL.pure rfl rfl (RanP.assign rfl) ?_
  refine RefL.nil ?_
  refine RefE.next ?_
  refine RefC.seq ?_
  refine RefC.region ?_
  refine RefL.hv rfl rfl (Hv.buildSlice rfl (cs := []) (e := 59) (fun _ => by kernel_rfl) fun x1 => ?_)
  refine RefL.pure rfl rfl (RanP.assign rfl) ?_
  refine RefL.nil ?_
  refine RefE.next ?_
  refine RefC.block ?_
  refine RefC.loopW (enc := fun (s10 : ByteArray × Sl) => ([(0, .string s10.1), (9, .slice s10.2.a s10.2.n s10.2.c), (1, .bool a1), (2, .int .i64 a2)] : Env)) ⟨rfl, rfl, rfl, rfl, trivial⟩ ?_ _
  intro again k ih s10
  unfold ref10_All_l0
  refine RefC.block ?_
  refine RefC.seq ?_
  refine RefC.region ?_
  refine RefL.pure rfl rfl (RanP.move rfl) ?_
  refine RefL.pure rfl rfl (RanP.move rfl) ?_
  refine RefL.pure rfl rfl (RanP.move rfl) ?_
  refine RefL.hv rfl rfl (Hv.call (ref10_One_ref K s10.1 a1 a2) Try.call42 rfl rfl rfl fun x11 => ?_)
  refine RefL.pure rfl rfl (RanP.move rfl) ?_
  refine RefL.pure rfl rfl (RanP.extract rfl rfl) ?_
  refine RefL.pure rfl rfl (RanP.extract rfl rfl) ?_
  refine RefL.pure rfl rfl (RanP.extract rfl rfl) ?_
  refine RefL.hv rfl rfl (Hv.newZ Try.zeroValue59 rfl fun x12 => ?_)
  refine RefL.hv rfl rfl (Hv.st Try.sizeOf59 rfl rfl rfl ?_)
  refine RefL.pure rfl rfl (RanP.assign rfl) ?_
  refine RefL.pure rfl rfl (RanP.assign rfl) ?_
  refine RefL.nil ?_
  refine RefE.next ?_
  refine RefC.seq ?_
  refine RefC.seq ?_
  refine RefC.region ?_
  refine RefL.pure rfl rfl (RanP.move rfl) ?_
  refine RefL.pure rfl rfl (RanP.eql rfl rfl) ?_
  refine RefL.nil ?_
  refine RefE.next ?_
  refine RefC.cond rfl ?_ ?_
  · refine RefC.seq ?_
    refine RefC.region ?_
    refine RefL.pure rfl rfl (RanP.move rfl) ?_
    refine RefL.pure rfl rfl (RanP.move rfl) ?_
    refine RefL.pure rfl rfl (RanP.lenS rfl Try.underlying9 rfl) ?_
    refine RefL.pure rfl rfl (RanP.assign rfl) ?_
    refine RefL.pure rfl rfl (RanP.assign rfl) ?_
    refine RefL.pure rfl rfl (RanP.assign rfl) ?_
    refine RefL.lt 8 (fun y => .int .i64 y) rfl fun x13 => ?_
    refine RefL.nil ?_
    refine RefE.next ?_
    refine RefC.ret ?_
    refine RefE.thenRet ?_
    refine RefE.blockRet ?_
    refine RefE.roundRet ?_
    refine RefE.blockRet ?_
    refine RefE.retV rfl ?_
    refine RefV.tmp rfl ?_
    refine RefV.tmp rfl ?_
    refine RefV.tmp rfl ?_
    exact RefV.nil rfl
  · refine RefC.skip ?_
    refine RefE.next ?_
    refine RefC.seq ?_
    refine RefC.seq ?_
    refine RefC.region ?_
    refine RefL.pure rfl rfl (RanP.move rfl) ?_
    refine RefL.pure rfl rfl (RanP.neq rfl rfl) ?_
    refine RefL.nil ?_
    refine RefE.next ?_
    refine RefC.cond rfl ?_ ?_
    · refine RefC.seq ?_
      refine RefC.region ?_
      refine RefL.pure rfl rfl (RanP.move rfl) ?_
      refine RefL.pure rfl rfl (RanP.move rfl) ?_
      refine RefL.pure rfl rfl (RanP.assign rfl) ?_
      refine RefL.pure rfl rfl (RanP.assign rfl) ?_
      refine RefL.pure rfl rfl (RanP.assign rfl) ?_
      refine RefL.nil ?_
      refine RefE.next ?_
      refine RefC.ret ?_
      refine RefE.thenRet ?_
      refine RefE.blockRet ?_
      refine RefE.roundRet ?_
      refine RefE.blockRet ?_
      refine RefE.retV rfl ?_
      refine RefV.tmp rfl ?_
      refine RefV.tmp rfl ?_
      refine RefV.tmp rfl ?_
      exact RefV.nil rfl
    · refine RefC.skip ?_
      refine RefE.next ?_
      refine RefC.draw mixed [0, 0, 2, 7, 0, 0, 48, 15, 255] [.lp 0, .li 1, .lp 4, .lp 5, .lp 6, .hv 2, .hv 3, .lp 7, .lp 8] (by kernel_rfl) ?_
      refine RefD.pure (at_ rfl) rfl (RanP.move rfl) ?_
      refine RefD.li0 (at_ rfl) rfl (Lt.ldG (τ := Tapi_Frame) Try.isAgg59 Try.sizeOf59 rfl fun x14 => ?_)
      refine RefD.pure (at_ rfl) rfl (RanP.move rfl) ?_
      refine RefD.pure (at_ rfl) rfl (RanP.move rfl) ?_
      refine RefD.any (at_ rfl) rfl (Lt.slStr (kl := .i64) (kh := .i64) Try.underlying9 rfl rfl rfl fun x15 => ?_)
      refine RefD.hv (at_ rfl) rfl (Hv.buildSlice rfl (cs := (Agg.cells x14)) (e := 59) (fun _ => by kernel_rfl) fun x16 => ?_)
      refine RefD.hv (at_ rfl) rfl (Hv.appS (i := Try.t59) rfl Try.underlying54 Try.underlying54 rfl rfl rfl rfl fun x17 => ?_)
      refine RefD.pure (at_ rfl) rfl (RanP.assign rfl) ?_
      refine RefD.pure (at_ rfl) rfl (RanP.assign rfl) ?_
      refine RefD.nil ?_
      refine RefE.blockNormal ?_
      exact RefE.again (ih (x15, x17)) ⟨rfl, rfl, rfl, rfl, trivial⟩

def law16_LegPongs_l0 (K : Nat) (a0 : Sl) (x2 : Option Addr × Int) (a1 : Sl) (again : (ByteArray × ByteArray × Int) → G ((ByteArray × ByteArray) ⊕ Bool)) (s103 : ByteArray × ByteArray × Int) : G ((ByteArray × ByteArray) ⊕ Bool) :=
  if (decide (s103.2.2 < (a0.n : Int))) = true then
    ixA a0 s103.2.2 1 fun x104 =>
    ldS x104 fun x105 =>
    if (decide ((125 : Int) < (x105.size : Int))) = true then
      inr (ret true)
    else
      drw <|
      ixA a0 s103.2.2 1 fun x106 =>
      ldS x106 fun x107 =>
      ixA a0 s103.2.2 1 fun x108 =>
      wld fun w110 =>
      ldS x108 fun x109 =>
      new [.int .u8 (IntKind.wrap .u8 (IntKind.wrap .i64 ((128 : Int) + (x107.size : Int))))] 5 fun x111 =>
      agr (like x108 1 w110) <|
      strOf (Sl.mk (some x111) 1 1) fun x112 =>
      chk ((ByteArray.mk #[137]).size + x112.size ≤ 9223372036854775807) <|
      chk (((ByteArray.mk #[137]) ++ x112).size + (ByteArray.mk #[0, 0, 0, 0]).size ≤ 9223372036854775807) <|
      chk ((((ByteArray.mk #[137]) ++ x112) ++ (ByteArray.mk #[0, 0, 0, 0])).size + x109.size ≤ 9223372036854775807) <|
      bytesOf 5 ((((ByteArray.mk #[137]) ++ x112) ++ (ByteArray.mk #[0, 0, 0, 0])) ++ x109) fun x116 =>
      bnd (leg_Leg_Feed K x2.1 x116) fun x117 =>
      if ((x117.n : Int) != (0 : Int)) = true then
        inr (ret false)
      else
        ixA a0 s103.2.2 1 fun x118 =>
        ldS x118 fun x119 =>
        bnd (
          if (decide (s103.2.2 < (a1.n : Int))) = true then
            ixA a1 s103.2.2 1 fun x126 =>
            ldI .u8 x126 fun x127 =>
            bnd (leg_Leg_Take K x2.1 (IntKind.wrap .i64 x127)) fun x128 =>
            strOf x128 fun x129 =>
            chk (s103.1.size + x129.size ≤ 9223372036854775807) <|
            lt (s103.1 ++ x129) fun x131 =>
            ret (x131)
          else
            ret (s103.1)) fun (s132 : ByteArray) =>
        lt (IntKind.wrap .i64 (s103.2.2 + (1 : Int))) fun x133 =>
        again (s132, x119, x133)
  else
    ret (.inl (s103.1, s103.2.1))
def law16_LegPongs_l1 (K : Nat) (x2 : Option Addr × Int) (again : (ByteArray × Int) → G (ByteArray)) (s159 : ByteArray × Int) : G (ByteArray) :=
  bnd (
    if (decide (s159.2 < (1000 : Int))) = true then
      bnd (leg_Leg_Quiet K x2.1) fun x161 =>
      ret (!x161)
    else
      ret false) fun (x160 : Bool) =>
  if x160 = true then
    bnd (leg_Leg_Take K x2.1 (50 : Int)) fun x162 =>
    strOf x162 fun x163 =>
    chk (s159.1.size + x163.size ≤ 9223372036854775807) <|
    lt (s159.1 ++ x163) fun x165 =>
    lt (IntKind.wrap .i64 (s159.2 + (1 : Int))) fun x166 =>
    again (x165, x166)
  else
    ret (s159.1)
def law16_LegPongs_l2 (K : Nat) (a0 : Sl) (x168 : Sl × Int × Int) (s475 : Int × Int) (again : Int → G (Int)) (s558 : Int) : G (Int) :=
  bnd (
    drw <|
    if (decide (s558 < (a0.n : Int))) = true then
      ixA a0 s558 1 fun x563 =>
      ldS x563 fun x564 =>
      ixA x168.1 s475.2 8 fun x565 =>
      ldS (x565.add 7) fun x566 =>
      ret ((!sEq x564 x566))
    else
      ret (false)) fun (s567 : Bool) =>
  if s567 = true then
    lt (IntKind.wrap .i64 (s558 + (1 : Int))) fun x568 =>
    again (x568)
  else
    ret (s558)
def law16_LegPongs_l3 (K : Nat) (x168 : Sl × Int × Int) (a0 : Sl) (again : (Int × Int) → G (Unit ⊕ Bool)) (s475 : Int × Int) : G (Unit ⊕ Bool) :=
  if (decide (s475.2 < (x168.1.n : Int))) = true then
    bnd (
      bnd (
        loopG (law16_LegPongs_l2 K a0 x168 s475) K (s475.1)) fun (s569 : Int) =>
      ixA x168.1 s475.2 8 fun x570 =>
      ldI .i64 (x570.add 1) fun x571 =>
      bnd (
        if (x571 != (10 : Int)) = true then
          ret true
        else
          ret (s569 == (a0.n : Int))) fun (x572 : Bool) =>
      if x572 = true then
        inr (inr (ret false))
      else
        lt (IntKind.wrap .i64 (s569 + (1 : Int))) fun x573 =>
        ret (.inl (x573))) (sumK fun (s574 : Int) =>
    lt (IntKind.wrap .i64 (s475.2 + (1 : Int))) fun x575 =>
    again (s574, x575))
  else
    ret (.inl ())
def law16_LegPongs (K : Nat) (a0 : Sl) (a1 : Sl) : G (Bool) :=
  bnd (law16_Config K (200 : Int) (50 : Int) (200 : Int)) fun x1 =>
  bnd (leg_New K x1 true (0 : Int)) fun x2 =>
  bnd (law16_awake K) fun x3 =>
  bnd (
    if (!x3) = true then
      ret true
    else
      ret (x2.2 != (0 : Int))) fun (x4 : Bool) =>
  bnd (
    if x4 = true then
      ret true
    else
      ret (Option.isNone x2.1)) fun (x5 : Bool) =>
  bnd (
    if x5 = true then
      ret true
    else
      ret (decide ((20 : Int) < (a0.n : Int)))) fun (x6 : Bool) =>
  if x6 = true then
    bnd (law16_awake K) fun x7 =>
    ret x7
  else
    lt (ByteArray.mk #[]) fun x8 =>
    lt (ByteArray.mk #[]) fun x9 =>
    bnd (
      loopG (law16_LegPongs_l0 K a0 x2 a1) K (x8, x9, (0 : Int))) (sumK fun (s134 : ByteArray × ByteArray) =>
    bnd (
      loopG (law16_LegPongs_l1 K x2) K (s134.1, (0 : Int))) fun (s167 : ByteArray) =>
    bnd (ref10_All K s167 false (200 : Int)) fun x168 =>
    bnd (
      if (x168.2.1 != (0 : Int)) = true then
        ret true
      else
        ret (x168.2.2 != (0 : Int))) fun (x169 : Bool) =>
    bnd (
      if x169 = true then
        ret true
      else
        ret (decide ((a0.n : Int) < (x168.1.n : Int)))) fun (x170 : Bool) =>
    bnd (
      if x170 = true then
        ret true
      else
        ret (!(((x168.1.n : Int) == (0 : Int)) == ((a0.n : Int) == (0 : Int))))) fun (x171 : Bool) =>
    if x171 = true then
      ret false
    else
      bnd (
        loopG (law16_LegPongs_l3 K x168 a0) K ((0 : Int), (0 : Int))) (sumK fun (s576 : Unit) =>
      bnd (
        if ((x168.1.n : Int) == (0 : Int)) = true then
          ret true
        else
          ixA x168.1 (IntKind.wrap .i64 ((x168.1.n : Int) - (1 : Int))) 8 fun x578 =>
          ldS (x578.add 7) fun x579 =>
          ret (sEq x579 s134.2)) fun (x577 : Bool) =>
      ret x577))
set_option maxRecDepth 100000 in
theorem law16_LegPongs_ref (K : Nat) (a0 : Sl) (a1 : Sl) : Does Try.prog 6 [.slice a0.a a0.n a0.c, .slice a1.a a1.n a1.c] (law16_LegPongs K a0 a1) (fun r => .bool r) := by
  refine Does.of Try.func6 rfl rfl rfl ?_
  unfold law16_LegPongs
  refine RefC.seq ?_
  refine RefC.region ?_
  refine RefL.pure rfl rfl (RanP.assign rfl) ?_
  refine RefL.nil ?_
  refine RefE.next ?_
  refine RefC.seq ?_
  refine RefC.region ?_
  refine RefL.hv rfl rfl (Hv.call (law16_Config_ref K (200 : Int) (50 : Int) (200 : Int)) Try.call8 rfl rfl rfl fun x1 => ?_)
  refine RefL.hv rfl rfl (Hv.call (leg_New_ref K x1 true (0 : Int)) Try.call9 rfl rfl rfl fun x2 => ?_)
  refine RefL.pure rfl rfl (RanP.move rfl) ?_
  refine RefL.pure rfl rfl (RanP.extract rfl rfl) ?_
  refine RefL.pure rfl rfl (RanP.extract rfl rfl) ?_
  refine RefL.pure rfl rfl (RanP.assign rfl) ?_
  refine RefL.pure rfl rfl (RanP.assign rfl) ?_
  refine RefL.nil ?_
  refine RefE.next ?_
  refine RefC.seq ?_
  refine RefC.seq ?_
  refine RefC.region ?_
  refine RefL.hv rfl rfl (Hv.call (law16_awake_ref K) Try.call10 rfl rfl rfl fun x3 => ?_)
  refine RefL.pure rfl rfl (RanP.not rfl) ?_
  refine RefL.pure rfl rfl (RanP.move rfl) ?_
  refine RefL.cut (enc := fun (x4 : Bool) => ([(27, .bool x4), (0, .slice a0.a a0.n a0.c), (1, .slice a1.a a1.n a1.c), (5, .pointer x2.1)] : Env)) 3 ?_ ?_
  · refine RefL.ite (s := 24) rfl ?_ ?_
    · refine RefL.skip rfl rfl ?_
      refine RefL.skip rfl rfl ?_
      refine RefL.pure rfl rfl (RanP.pickT rfl rfl) ?_
      refine RefL.nil ?_
      exact RefE.fin (s := true) ⟨rfl, rfl, rfl, rfl, trivial⟩
    · refine RefL.pure rfl rfl (RanP.move rfl) ?_
      refine RefL.pure rfl rfl (RanP.neq rfl rfl) ?_
      refine RefL.pure rfl rfl (RanP.pickF rfl rfl) ?_
      refine RefL.nil ?_
      exact RefE.fin (s := (x2.2 != (0 : Int))) ⟨rfl, rfl, rfl, rfl, trivial⟩
  · intro x4
    refine RefL.pure rfl rfl (RanP.move rfl) ?_
    refine RefL.cut (enc := fun (x5 : Bool) => ([(31, .bool x5), (0, .slice a0.a a0.n a0.c), (1, .slice a1.a a1.n a1.c), (5, .pointer x2.1)] : Env)) 3 ?_ ?_
    · refine RefL.ite (s := 28) rfl ?_ ?_
      · refine RefL.skip rfl rfl ?_
        refine RefL.skip rfl rfl ?_
        refine RefL.pure rfl rfl (RanP.pickT rfl rfl) ?_
        refine RefL.nil ?_
        exact RefE.fin (s := true) ⟨rfl, rfl, rfl, rfl, trivial⟩
      · refine RefL.pure rfl rfl (RanP.move rfl) ?_
        refine RefL.pure rfl rfl (RanP.eqlNil Try.underlying27 rfl rfl) ?_
        refine RefL.pure rfl rfl (RanP.pickF rfl rfl) ?_
        refine RefL.nil ?_
        exact RefE.fin (s := (Option.isNone x2.1)) ⟨rfl, rfl, rfl, rfl, trivial⟩
    · intro x5
      refine RefL.pure rfl rfl (RanP.move rfl) ?_
      refine RefL.cut (enc := fun (x6 : Bool) => ([(36, .bool x6), (0, .slice a0.a a0.n a0.c), (1, .slice a1.a a1.n a1.c), (5, .pointer x2.1)] : Env)) 4 ?_ ?_
      · refine RefL.ite (s := 32) rfl ?_ ?_
        · refine RefL.skip rfl rfl ?_
          refine RefL.skip rfl rfl ?_
          refine RefL.skip rfl rfl ?_
          refine RefL.pure rfl rfl (RanP.pickT rfl rfl) ?_
          refine RefL.nil ?_
          exact RefE.fin (s := true) ⟨rfl, rfl, rfl, rfl, trivial⟩
        · refine RefL.pure rfl rfl (RanP.move rfl) ?_
          refine RefL.pure rfl rfl (RanP.lenSl rfl Try.underlying22 rfl) ?_
          refine RefL.pure rfl rfl (RanP.gtr rfl rfl) ?_
          refine RefL.pure rfl rfl (RanP.pickF rfl rfl) ?_
          refine RefL.nil ?_
          exact RefE.fin (s := (decide ((20 : Int) < (a0.n : Int)))) ⟨rfl, rfl, rfl, rfl, trivial⟩
      · intro x6
        refine RefL.nil ?_
        refine RefE.next ?_
        refine RefC.cond rfl ?_ ?_
        · refine RefC.seq ?_
          refine RefC.region ?_
          refine RefL.hv rfl rfl (Hv.call (law16_awake_ref K) Try.call10 rfl rfl rfl fun x7 => ?_)
          refine RefL.pure rfl rfl (RanP.assign rfl) ?_
          refine RefL.nil ?_
          refine RefE.next ?_
          refine RefC.ret ?_
          refine RefE.thenRet ?_
          refine RefE.retV rfl ?_
          refine RefV.tmp rfl ?_
          exact RefV.nil rfl
        · refine RefC.skip ?_
          refine RefE.next ?_
          refine RefC.seq ?_
          refine RefC.region ?_
          refine RefL.pure rfl rfl (RanP.assign rfl) ?_
          refine RefL.lt 7 (fun y => .string y) rfl fun x8 => ?_
          refine RefL.pure rfl rfl (RanP.assign rfl) ?_
          refine RefL.lt 8 (fun y => .string y) rfl fun x9 => ?_
          refine RefL.nil ?_
          refine RefE.next ?_
          refine RefC.seq ?_
          refine RefC.seq ?_
          refine RefC.region ?_
          refine RefL.pure rfl rfl (RanP.assign rfl) ?_
          refine RefL.nil ?_
          refine RefE.next ?_
          refine RefC.cutSum (enc := fun (s134 : ByteArray × ByteArray) => ([(7, .string s134.1), (8, .string s134.2), (0, .slice a0.a a0.n a0.c), (5, .pointer x2.1)] : Env)) (KThen.mono KRet.mono) ?_ ?_
          · refine RefC.block ?_
            refine RefC.loopW (enc := fun (s103 : ByteArray × ByteArray × Int) => ([(7, .string s103.1), (8, .string s103.2.1), (9, .int .i64 s103.2.2), (0, .slice a0.a a0.n a0.c), (1, .slice a1.a a1.n a1.c), (5, .pointer x2.1)] : Env)) ⟨rfl, rfl, rfl, rfl, rfl, rfl, trivial⟩ ?_ _
            intro again k ih s103
            unfold law16_LegPongs_l0
            refine RefC.seq ?_
            refine RefC.seq ?_
            refine RefC.region ?_
            refine RefL.pure rfl rfl (RanP.move rfl) ?_
            refine RefL.pure rfl rfl (RanP.move rfl) ?_
            refine RefL.pure rfl rfl (RanP.lenSl rfl Try.underlying22 rfl) ?_
            refine RefL.pure rfl rfl (RanP.lss rfl rfl) ?_
            refine RefL.nil ?_
            refine RefE.next ?_
            refine RefC.cond rfl ?_ ?_
            · refine RefC.skip ?_
              refine RefE.next ?_
              refine RefC.seq ?_
              refine RefC.block ?_
              refine RefC.seq ?_
              refine RefC.seq ?_
              refine RefC.region ?_
              refine RefL.pure rfl rfl (RanP.move rfl) ?_
              refine RefL.pure rfl rfl (RanP.move rfl) ?_
              refine RefL.li rfl rfl (Lt.ixA Try.underlying22 Try.sizeOf9 rfl rfl fun x104 => ?_)
              refine RefL.li rfl rfl (Lt.ldS Try.isAgg9 rfl fun x105 => ?_)
              refine RefL.pure rfl rfl (RanP.lenS rfl Try.underlying9 rfl) ?_
              refine RefL.pure rfl rfl (RanP.gtr rfl rfl) ?_
              refine RefL.nil ?_
              refine RefE.next ?_
              refine RefC.cond rfl ?_ ?_
              · refine RefC.seq ?_
                refine RefC.region ?_
                refine RefL.pure rfl rfl (RanP.assign rfl) ?_
                refine RefL.nil ?_
                refine RefE.next ?_
                refine RefC.ret ?_
                refine RefE.thenRet ?_
                refine RefE.blockRet ?_
                refine RefE.thenRet ?_
                refine RefE.roundRet ?_
                refine RefE.blockRet ?_
                refine RefE.finR ?_
                refine RefE.thenRet ?_
                refine RefE.retV rfl ?_
                refine RefV.tmp rfl ?_
                exact RefV.nil rfl
              · refine RefC.skip ?_
                refine RefE.next ?_
                refine RefC.seq ?_
                refine RefC.seq ?_
                refine RefC.draw mixed [0, 0, 0, 6, 14, 30, 62, 126, 254, 510, 1022, 2046, 0, 0, 12288, 28672, 65534, 131070, 262143, 524287] [.lp 0, .lp 1, .lp 2, .lp 3, .li 4, .lp 5, .lp 6, .lp 7, .lp 12, .lp 13, .lp 14, .li 15, .hv 8, .re 15, .li 9, .lp 10, .lp 11, .lp 16, .hv 17, .hv 18, .lp 19] (by kernel_rfl) ?_
                refine RefD.pure (at_ rfl) rfl (RanP.move rfl) ?_
                refine RefD.pure (at_ rfl) rfl (RanP.move rfl) ?_
                refine RefD.pure (at_ rfl) rfl (RanP.move rfl) ?_
                refine RefD.any (at_ rfl) rfl (Lt.ixA Try.underlying22 Try.sizeOf9 rfl rfl fun x106 => ?_)
                refine RefD.li0 (at_ rfl) rfl (Lt.ldS Try.isAgg9 rfl fun x107 => ?_)
                refine RefD.pure (at_ rfl) rfl (RanP.lenS rfl Try.underlying9 rfl) ?_
                refine RefD.pure (at_ rfl) rfl (RanP.add rfl rfl) ?_
                refine RefD.pure (at_ rfl) rfl (RanP.conv Try.underlying3 Try.underlying5 rfl) ?_
                refine RefD.pure (at_ rfl) rfl (RanP.move rfl) ?_
                refine RefD.pure (at_ rfl) rfl (RanP.move rfl) ?_
                refine RefD.any (at_ rfl) rfl (Lt.ixA Try.underlying22 Try.sizeOf9 rfl rfl fun x108 => ?_)
                refine RefD.li (at_ rfl) rfl fun w110 => (Lt.ldS Try.isAgg9 rfl fun x109 => ?_)
                refine RefD.hv (at_ rfl) rfl (Hv.buildSlice rfl (cs := [.int .u8 (IntKind.wrap .u8 (IntKind.wrap .i64 ((128 : Int) + (x107.size : Int))))]) (e := 5) (fun _ => by kernel_rfl) fun x111 => ?_)
                refine RefD.re rfl ?_
                refine RefD.li0 (at_ rfl) rfl (Lt.strOf Try.underlying36 Try.underlying9 Try.underlying5 rfl fun x112 => ?_)
                refine RefD.chk fun h113 => ?_
                refine RefD.pure (at_ rfl) rfl (RanP.addS h113 rfl rfl) ?_
                refine RefD.chk fun h114 => ?_
                refine RefD.pure (at_ rfl) rfl (RanP.addS h114 rfl rfl) ?_
                refine RefD.chk fun h115 => ?_
                refine RefD.pure (at_ rfl) rfl (RanP.addS h115 rfl rfl) ?_
                refine RefD.hv (at_ rfl) rfl (Hv.bytesOf Try.underlying9 Try.underlying36 Try.underlying5 rfl fun x116 => ?_)
                refine RefD.hv (at_ rfl) rfl (Hv.call (leg_Leg_Feed_ref K x2.1 x116) Try.call12 rfl rfl rfl fun x117 => ?_)
                refine RefD.pure (at_ rfl) rfl (RanP.assign rfl) ?_
                refine RefD.nil ?_
                refine RefE.next ?_
                refine RefC.seq ?_
                refine RefC.region ?_
                refine RefL.pure rfl rfl (RanP.move rfl) ?_
                refine RefL.pure rfl rfl (RanP.lenSl rfl Try.underlying34 rfl) ?_
                refine RefL.pure rfl rfl (RanP.neq rfl rfl) ?_
                refine RefL.nil ?_
                refine RefE.next ?_
                refine RefC.cond rfl ?_ ?_
                · refine RefC.seq ?_
                  refine RefC.region ?_
                  refine RefL.pure rfl rfl (RanP.assign rfl) ?_
                  refine RefL.nil ?_
                  refine RefE.next ?_
                  refine RefC.ret ?_
                  refine RefE.thenRet ?_
                  refine RefE.blockRet ?_
                  refine RefE.thenRet ?_
                  refine RefE.roundRet ?_
                  refine RefE.blockRet ?_
                  refine RefE.finR ?_
                  refine RefE.thenRet ?_
                  refine RefE.retV rfl ?_
                  refine RefV.tmp rfl ?_
                  exact RefV.nil rfl
                · refine RefC.skip ?_
                  refine RefE.next ?_
                  refine RefC.seq ?_
                  refine RefC.region ?_
                  refine RefL.pure rfl rfl (RanP.move rfl) ?_
                  refine RefL.pure rfl rfl (RanP.move rfl) ?_
                  refine RefL.li rfl rfl (Lt.ixA Try.underlying22 Try.sizeOf9 rfl rfl fun x118 => ?_)
                  refine RefL.li rfl rfl (Lt.ldS Try.isAgg9 rfl fun x119 => ?_)
                  refine RefL.pure rfl rfl (RanP.assign rfl) ?_
                  refine RefL.nil ?_
                  refine RefE.next ?_
                  refine RefC.seq ?_
                  refine RefC.region ?_
                  refine RefL.pure rfl rfl (RanP.move rfl) ?_
                  refine RefL.pure rfl rfl (RanP.move rfl) ?_
                  refine RefL.pure rfl rfl (RanP.lenSl rfl Try.underlying36 rfl) ?_
                  refine RefL.pure rfl rfl (RanP.lss rfl rfl) ?_
                  refine RefL.nil ?_
                  refine RefE.next ?_
                  refine RefC.cut (enc := fun (s132 : ByteArray) => ([(7, .string s132), (0, .slice a0.a a0.n a0.c), (1, .slice a1.a a1.n a1.c), (5, .pointer x2.1), (8, .string x119), (9, .int .i64 s103.2.2)] : Env)) ?_ ?_
                  · refine RefC.cond rfl ?_ ?_
                    · refine RefC.region ?_
                      refine RefL.pure rfl rfl (RanP.move rfl) ?_
                      refine RefL.pure rfl rfl (RanP.move rfl) ?_
                      refine RefL.pure rfl rfl (RanP.move rfl) ?_
                      refine RefL.pure rfl rfl (RanP.move rfl) ?_
                      refine RefL.li rfl rfl (Lt.ixA Try.underlying36 Try.sizeOf5 rfl rfl fun x126 => ?_)
                      refine RefL.li rfl rfl (Lt.ldI Try.isAgg5 rfl fun x127 => ?_)
                      refine RefL.pure rfl rfl (RanP.conv Try.underlying5 Try.underlying3 rfl) ?_
                      refine RefL.hv rfl rfl (Hv.call (leg_Leg_Take_ref K x2.1 (IntKind.wrap .i64 x127)) Try.call21 rfl rfl rfl fun x128 => ?_)
                      refine RefL.li rfl rfl (Lt.strOf Try.underlying36 Try.underlying9 Try.underlying5 rfl fun x129 => ?_)
                      refine RefL.chk fun h130 => ?_
                      refine RefL.pure rfl rfl (RanP.addS h130 rfl rfl) ?_
                      refine RefL.pure rfl rfl (RanP.assign rfl) ?_
                      refine RefL.lt 7 (fun y => .string y) rfl fun x131 => ?_
                      refine RefL.nil ?_
                      exact RefE.fin (s := (x131)) ⟨rfl, rfl, rfl, rfl, rfl, rfl, trivial⟩
                    · refine RefC.skip ?_
                      exact RefE.fin (s := (s103.1)) ⟨rfl, rfl, rfl, rfl, rfl, rfl, trivial⟩
                  · intro s132
                    refine RefE.blockNormal ?_
                    refine RefE.next ?_
                    refine RefC.region ?_
                    refine RefL.pure rfl rfl (RanP.move rfl) ?_
                    refine RefL.pure rfl rfl (RanP.add rfl rfl) ?_
                    refine RefL.pure rfl rfl (RanP.assign rfl) ?_
                    refine RefL.lt 9 (fun y => .int .i64 y) rfl fun x133 => ?_
                    refine RefL.nil ?_
                    exact RefE.again (ih (s132, x119, x133)) ⟨rfl, rfl, rfl, rfl, rfl, rfl, trivial⟩
            · refine RefC.exit ?_
              refine RefE.thenExit ?_
              refine RefE.roundExit ?_
              refine RefE.blockExit ?_
              exact RefE.finL (s := (s103.1, s103.2.1)) ⟨rfl, rfl, rfl, rfl, trivial⟩
          · intro s134
            refine RefE.next ?_
            refine RefC.seq ?_
            refine RefC.seq ?_
            refine RefC.region ?_
            refine RefL.pure rfl rfl (RanP.assign rfl) ?_
            refine RefL.nil ?_
            refine RefE.next ?_
            refine RefC.cut (enc := fun (s167 : ByteArray) => ([(7, .string s167), (0, .slice a0.a a0.n a0.c), (8, .string s134.2)] : Env)) ?_ ?_
            · refine RefC.block ?_
              refine RefC.loopW (enc := fun (s159 : ByteArray × Int) => ([(7, .string s159.1), (11, .int .i64 s159.2), (0, .slice a0.a a0.n a0.c), (5, .pointer x2.1), (8, .string s134.2)] : Env)) ⟨rfl, rfl, rfl, rfl, rfl, trivial⟩ ?_ _
              intro again k ih s159
              unfold law16_LegPongs_l1
              refine RefC.seq ?_
              refine RefC.seq ?_
              refine RefC.region ?_
              refine RefL.pure rfl rfl (RanP.move rfl) ?_
              refine RefL.pure rfl rfl (RanP.lss rfl rfl) ?_
              refine RefL.pure rfl rfl (RanP.move rfl) ?_
              refine RefL.cut (enc := fun (x160 : Bool) => ([(96, .bool x160), (0, .slice a0.a a0.n a0.c), (5, .pointer x2.1), (7, .string s159.1), (8, .string s134.2), (11, .int .i64 s159.2)] : Env)) 4 ?_ ?_
              · refine RefL.ite (s := 92) rfl ?_ ?_
                · refine RefL.pure rfl rfl (RanP.move rfl) ?_
                  refine RefL.hv rfl rfl (Hv.call (leg_Leg_Quiet_ref K x2.1) Try.call24 rfl rfl rfl fun x161 => ?_)
                  refine RefL.pure rfl rfl (RanP.not rfl) ?_
                  refine RefL.pure rfl rfl (RanP.pickT rfl rfl) ?_
                  refine RefL.nil ?_
                  exact RefE.fin (s := (!x161)) ⟨rfl, rfl, rfl, rfl, rfl, rfl, trivial⟩
                · refine RefL.skip rfl rfl ?_
                  refine RefL.skip rfl rfl ?_
                  refine RefL.skip rfl rfl ?_
                  refine RefL.pure rfl rfl (RanP.pickF rfl rfl) ?_
                  refine RefL.nil ?_
                  exact RefE.fin (s := false) ⟨rfl, rfl, rfl, rfl, rfl, rfl, trivial⟩
              · intro x160
                refine RefL.nil ?_
                refine RefE.next ?_
                refine RefC.cond rfl ?_ ?_
                · refine RefC.skip ?_
                  refine RefE.next ?_
                  refine RefC.seq ?_
                  refine RefC.block ?_
                  refine RefC.region ?_
                  refine RefL.pure rfl rfl (RanP.move rfl) ?_
                  refine RefL.pure rfl rfl (RanP.move rfl) ?_
                  refine RefL.hv rfl rfl (Hv.call (leg_Leg_Take_ref K x2.1 (50 : Int)) Try.call21 rfl rfl rfl fun x162 => ?_)
                  refine RefL.li rfl rfl (Lt.strOf Try.underlying36 Try.underlying9 Try.underlying5 rfl fun x163 => ?_)
                  refine RefL.chk fun h164 => ?_
                  refine RefL.pure rfl rfl (RanP.addS h164 rfl rfl) ?_
                  refine RefL.pure rfl rfl (RanP.assign rfl) ?_
                  refine RefL.lt 7 (fun y => .string y) rfl fun x165 => ?_
                  refine RefL.nil ?_
                  refine RefE.blockNormal ?_
                  refine RefE.next ?_
                  refine RefC.region ?_
                  refine RefL.pure rfl rfl (RanP.move rfl) ?_
                  refine RefL.pure rfl rfl (RanP.add rfl rfl) ?_
                  refine RefL.pure rfl rfl (RanP.assign rfl) ?_
                  refine RefL.lt 11 (fun y => .int .i64 y) rfl fun x166 => ?_
                  refine RefL.nil ?_
                  exact RefE.again (ih (x165, x166)) ⟨rfl, rfl, rfl, rfl, rfl, trivial⟩
                · refine RefC.exit ?_
                  refine RefE.thenExit ?_
                  refine RefE.roundExit ?_
                  refine RefE.blockExit ?_
                  exact RefE.fin (s := (s159.1)) ⟨rfl, rfl, rfl, trivial⟩
            · intro s167
              refine RefE.next ?_
              refine RefC.seq ?_
              refine RefC.region ?_
              refine RefL.pure rfl rfl (RanP.move rfl) ?_
              refine RefL.hv rfl rfl (Hv.call (ref10_All_ref K s167 false (200 : Int)) Try.call25 rfl rfl rfl fun x168 => ?_)
              refine RefL.pure rfl rfl (RanP.move rfl) ?_
              refine RefL.pure rfl rfl (RanP.extract rfl rfl) ?_
              refine RefL.pure rfl rfl (RanP.extract rfl rfl) ?_
              refine RefL.pure rfl rfl (RanP.extract rfl rfl) ?_
              refine RefL.pure rfl rfl (RanP.assign rfl) ?_
              refine RefL.pure rfl rfl (RanP.assign rfl) ?_
              refine RefL.pure rfl rfl (RanP.assign rfl) ?_
              refine RefL.nil ?_
              refine RefE.next ?_
              refine RefC.seq ?_
              refine RefC.seq ?_
              refine RefC.region ?_
              refine RefL.pure rfl rfl (RanP.move rfl) ?_
              refine RefL.pure rfl rfl (RanP.neq rfl rfl) ?_
              refine RefL.pure rfl rfl (RanP.move rfl) ?_
              refine RefL.cut (enc := fun (x169 : Bool) => ([(115, .bool x169), (0, .slice a0.a a0.n a0.c), (8, .string s134.2), (12, .slice x168.1.a x168.1.n x168.1.c)] : Env)) 3 ?_ ?_
              · refine RefL.ite (s := 112) rfl ?_ ?_
                · refine RefL.skip rfl rfl ?_
                  refine RefL.skip rfl rfl ?_
                  refine RefL.pure rfl rfl (RanP.pickT rfl rfl) ?_
                  refine RefL.nil ?_
                  exact RefE.fin (s := true) ⟨rfl, rfl, rfl, rfl, trivial⟩
                · refine RefL.pure rfl rfl (RanP.move rfl) ?_
                  refine RefL.pure rfl rfl (RanP.neq rfl rfl) ?_
                  refine RefL.pure rfl rfl (RanP.pickF rfl rfl) ?_
                  refine RefL.nil ?_
                  exact RefE.fin (s := (x168.2.2 != (0 : Int))) ⟨rfl, rfl, rfl, rfl, trivial⟩
              · intro x169
                refine RefL.pure rfl rfl (RanP.move rfl) ?_
                refine RefL.cut (enc := fun (x170 : Bool) => ([(122, .bool x170), (0, .slice a0.a a0.n a0.c), (8, .string s134.2), (12, .slice x168.1.a x168.1.n x168.1.c)] : Env)) 6 ?_ ?_
                · refine RefL.ite (s := 116) rfl ?_ ?_
                  · refine RefL.skip rfl rfl ?_
                    refine RefL.skip rfl rfl ?_
                    refine RefL.skip rfl rfl ?_
                    refine RefL.skip rfl rfl ?_
                    refine RefL.skip rfl rfl ?_
                    refine RefL.pure rfl rfl (RanP.pickT rfl rfl) ?_
                    refine RefL.nil ?_
                    exact RefE.fin (s := true) ⟨rfl, rfl, rfl, rfl, trivial⟩
                  · refine RefL.pure rfl rfl (RanP.move rfl) ?_
                    refine RefL.pure rfl rfl (RanP.lenSl rfl Try.underlying54 rfl) ?_
                    refine RefL.pure rfl rfl (RanP.move rfl) ?_
                    refine RefL.pure rfl rfl (RanP.lenSl rfl Try.underlying22 rfl) ?_
                    refine RefL.pure rfl rfl (RanP.gtr rfl rfl) ?_
                    refine RefL.pure rfl rfl (RanP.pickF rfl rfl) ?_
                    refine RefL.nil ?_
                    exact RefE.fin (s := (decide ((a0.n : Int) < (x168.1.n : Int)))) ⟨rfl, rfl, rfl, rfl, trivial⟩
                · intro x170
                  refine RefL.pure rfl rfl (RanP.move rfl) ?_
                  refine RefL.cut (enc := fun (x171 : Bool) => ([(131, .bool x171), (0, .slice a0.a a0.n a0.c), (8, .string s134.2), (12, .slice x168.1.a x168.1.n x168.1.c)] : Env)) 8 ?_ ?_
                  · refine RefL.ite (s := 123) rfl ?_ ?_
                    · refine RefL.skip rfl rfl ?_
                      refine RefL.skip rfl rfl ?_
                      refine RefL.skip rfl rfl ?_
                      refine RefL.skip rfl rfl ?_
                      refine RefL.skip rfl rfl ?_
                      refine RefL.skip rfl rfl ?_
                      refine RefL.skip rfl rfl ?_
                      refine RefL.pure rfl rfl (RanP.pickT rfl rfl) ?_
                      refine RefL.nil ?_
                      exact RefE.fin (s := true) ⟨rfl, rfl, rfl, rfl, trivial⟩
                    · refine RefL.pure rfl rfl (RanP.move rfl) ?_
                      refine RefL.pure rfl rfl (RanP.lenSl rfl Try.underlying54 rfl) ?_
                      refine RefL.pure rfl rfl (RanP.eql rfl rfl) ?_
                      refine RefL.pure rfl rfl (RanP.move rfl) ?_
                      refine RefL.pure rfl rfl (RanP.lenSl rfl Try.underlying22 rfl) ?_
                      refine RefL.pure rfl rfl (RanP.eql rfl rfl) ?_
                      refine RefL.pure rfl rfl (RanP.neqB Try.underlying4 rfl rfl) ?_
                      refine RefL.pure rfl rfl (RanP.pickF rfl rfl) ?_
                      refine RefL.nil ?_
                      exact RefE.fin (s := (!(((x168.1.n : Int) == (0 : Int)) == ((a0.n : Int) == (0 : Int))))) ⟨rfl, rfl, rfl, rfl, trivial⟩
                  · intro x171
                    refine RefL.nil ?_
                    refine RefE.next ?_
                    refine RefC.cond rfl ?_ ?_
                    · refine RefC.seq ?_
                      refine RefC.region ?_
                      refine RefL.pure rfl rfl (RanP.assign rfl) ?_
                      refine RefL.nil ?_
                      refine RefE.next ?_
                      refine RefC.ret ?_
                      refine RefE.thenRet ?_
                      refine RefE.retV rfl ?_
                      refine RefV.tmp rfl ?_
                      exact RefV.nil rfl
                    · refine RefC.skip ?_
                      refine RefE.next ?_
                      refine RefC.seq ?_
                      refine RefC.region ?_
                      refine RefL.pure rfl rfl (RanP.assign rfl) ?_
                      refine RefL.nil ?_
                      refine RefE.next ?_
                      refine RefC.seq ?_
                      refine RefC.seq ?_
                      refine RefC.region ?_
                      refine RefL.pure rfl rfl (RanP.assign rfl) ?_
                      refine RefL.nil ?_
                      refine RefE.next ?_
                      refine RefC.cutSum (enc := fun (s576 : Unit) => ([(8, .string s134.2), (12, .slice x168.1.a x168.1.n x168.1.c)] : Env)) (KThen.mono KRet.mono) ?_ ?_
                      · refine RefC.block ?_
                        refine RefC.loopW (enc := fun (s475 : Int × Int) => ([(15, .int .i64 s475.1), (16, .int .i64 s475.2), (0, .slice a0.a a0.n a0.c), (8, .string s134.2), (12, .slice x168.1.a x168.1.n x168.1.c)] : Env)) ⟨rfl, rfl, rfl, rfl, rfl, trivial⟩ ?_ _
                        intro again k ih s475
                        unfold law16_LegPongs_l3
                        refine RefC.seq ?_
                        refine RefC.seq ?_
                        refine RefC.region ?_
                        refine RefL.pure rfl rfl (RanP.move rfl) ?_
                        refine RefL.pure rfl rfl (RanP.move rfl) ?_
                        refine RefL.pure rfl rfl (RanP.lenSl rfl Try.underlying54 rfl) ?_
                        refine RefL.pure rfl rfl (RanP.lss rfl rfl) ?_
                        refine RefL.nil ?_
                        refine RefE.next ?_
                        refine RefC.cond rfl ?_ ?_
                        · refine RefC.skip ?_
                          refine RefE.next ?_
                          refine RefC.seq ?_
                          refine RefC.cutSum (enc := fun (s574 : Int) => ([(15, .int .i64 s574), (0, .slice a0.a a0.n a0.c), (8, .string s134.2), (12, .slice x168.1.a x168.1.n x168.1.c), (16, .int .i64 s475.2)] : Env)) (KThen.mono (KRound.mono (KBlock.mono (KSum.mono (KThen.mono KRet.mono))))) ?_ ?_
                          · refine RefC.block ?_
                            refine RefC.seq ?_
                            refine RefC.cut (enc := fun (s569 : Int) => ([(15, .int .i64 s569), (0, .slice a0.a a0.n a0.c), (8, .string s134.2), (12, .slice x168.1.a x168.1.n x168.1.c), (16, .int .i64 s475.2)] : Env)) ?_ ?_
                            · refine RefC.block ?_
                              refine RefC.loopW (enc := fun (s558 : Int) => ([(15, .int .i64 s558), (0, .slice a0.a a0.n a0.c), (8, .string s134.2), (12, .slice x168.1.a x168.1.n x168.1.c), (16, .int .i64 s475.2)] : Env)) ⟨rfl, rfl, rfl, rfl, rfl, trivial⟩ ?_ _
                              intro again k ih s558
                              unfold law16_LegPongs_l2
                              refine RefC.seq ?_
                              refine RefC.seq ?_
                              refine RefC.cut (enc := fun (s567 : Bool) => ([(153, .bool s567), (0, .slice a0.a a0.n a0.c), (8, .string s134.2), (12, .slice x168.1.a x168.1.n x168.1.c), (15, .int .i64 s558), (16, .int .i64 s475.2)] : Env)) ?_ ?_
                              · refine RefC.draw mixed [0, 0, 2, 7, 15, 31, 31, 127, 255, 31, 31, 1567, 3615, 7711, 16383, 32767] [.lp 0, .lp 1, .lp 2, .lp 3, .lp 4, .lp 5, .lp 6, .lp 7, .li 8, .lp 9, .lp 10, .lp 11, .lp 12, .li 13, .lp 14, .lp 15] (by kernel_rfl) ?_
                                refine RefD.pure (at_ rfl) rfl (RanP.move rfl) ?_
                                refine RefD.pure (at_ rfl) rfl (RanP.move rfl) ?_
                                refine RefD.pure (at_ rfl) rfl (RanP.lenSl rfl Try.underlying22 rfl) ?_
                                refine RefD.pure (at_ rfl) rfl (RanP.lss rfl rfl) ?_
                                refine RefD.pure (at_ rfl) rfl (RanP.move rfl) ?_
                                refine RefD.ite (s := 142) rfl ?_ ?_
                                · refine RefD.pure (at_ rfl) rfl (RanP.move rfl) ?_
                                  refine RefD.pure (at_ rfl) rfl (RanP.move rfl) ?_
                                  refine RefD.any (at_ rfl) rfl (Lt.ixA Try.underlying22 Try.sizeOf9 rfl rfl fun x563 => ?_)
                                  refine RefD.li0 (at_ rfl) rfl (Lt.ldS Try.isAgg9 rfl fun x564 => ?_)
                                  refine RefD.pure (at_ rfl) rfl (RanP.move rfl) ?_
                                  refine RefD.pure (at_ rfl) rfl (RanP.move rfl) ?_
                                  refine RefD.any (at_ rfl) rfl (Lt.ixA Try.underlying54 Try.sizeOf59 rfl rfl fun x565 => ?_)
                                  refine RefD.pure (at_ rfl) rfl (RanP.fieldAddr fa_59_4 rfl) ?_
                                  refine RefD.li0 (at_ rfl) rfl (Lt.ldS Try.isAgg9 rfl fun x566 => ?_)
                                  refine RefD.pure (at_ rfl) rfl (RanP.neqS rfl rfl) ?_
                                  refine RefD.pure (at_ rfl) rfl (RanP.pickT rfl rfl) ?_
                                  refine RefD.nil ?_
                                  exact RefE.fin (s := ((!sEq x564 x566))) ⟨rfl, rfl, rfl, rfl, rfl, rfl, trivial⟩
                                · refine RefD.skipP (at_ rfl) rfl ?_
                                  refine RefD.skipP (at_ rfl) rfl ?_
                                  refine RefD.skipP (at_ rfl) rfl ?_
                                  refine RefD.skipI (at_ rfl) rfl ?_
                                  refine RefD.skipP (at_ rfl) rfl ?_
                                  refine RefD.skipP (at_ rfl) rfl ?_
                                  refine RefD.skipP (at_ rfl) rfl ?_
                                  refine RefD.skipP (at_ rfl) rfl ?_
                                  refine RefD.skipI (at_ rfl) rfl ?_
                                  refine RefD.skipP (at_ rfl) rfl ?_
                                  refine RefD.pure (at_ rfl) rfl (RanP.pickF rfl rfl) ?_
                                  refine RefD.nil ?_
                                  exact RefE.fin (s := (false)) ⟨rfl, rfl, rfl, rfl, rfl, rfl, trivial⟩
                              · intro s567
                                refine RefE.next ?_
                                refine RefC.cond rfl ?_ ?_
                                · refine RefC.skip ?_
                                  refine RefE.next ?_
                                  refine RefC.block ?_
                                  refine RefC.region ?_
                                  refine RefL.pure rfl rfl (RanP.move rfl) ?_
                                  refine RefL.pure rfl rfl (RanP.add rfl rfl) ?_
                                  refine RefL.pure rfl rfl (RanP.assign rfl) ?_
                                  refine RefL.lt 15 (fun y => .int .i64 y) rfl fun x568 => ?_
                                  refine RefL.nil ?_
                                  refine RefE.blockNormal ?_
                                  exact RefE.again (ih (x568)) ⟨rfl, rfl, rfl, rfl, rfl, trivial⟩
                                · refine RefC.exit ?_
                                  refine RefE.thenExit ?_
                                  refine RefE.roundExit ?_
                                  refine RefE.blockExit ?_
                                  exact RefE.fin (s := (s558)) ⟨rfl, rfl, rfl, rfl, rfl, trivial⟩
                            · intro s569
                              refine RefE.next ?_
                              refine RefC.seq ?_
                              refine RefC.seq ?_
                              refine RefC.region ?_
                              refine RefL.pure rfl rfl (RanP.move rfl) ?_
                              refine RefL.pure rfl rfl (RanP.move rfl) ?_
                              refine RefL.li rfl rfl (Lt.ixA Try.underlying54 Try.sizeOf59 rfl rfl fun x570 => ?_)
                              refine RefL.pure rfl rfl (RanP.fieldAddr fa_59_1 rfl) ?_
                              refine RefL.li rfl rfl (Lt.ldI Try.isAgg3 rfl fun x571 => ?_)
                              refine RefL.pure rfl rfl (RanP.neq rfl rfl) ?_
                              refine RefL.pure rfl rfl (RanP.move rfl) ?_
                              refine RefL.cut (enc := fun (x572 : Bool) => ([(167, .bool x572), (0, .slice a0.a a0.n a0.c), (8, .string s134.2), (12, .slice x168.1.a x168.1.n x168.1.c), (15, .int .i64 s569), (16, .int .i64 s475.2)] : Env)) 5 ?_ ?_
                              · refine RefL.ite (s := 162) rfl ?_ ?_
                                · refine RefL.skip rfl rfl ?_
                                  refine RefL.skip rfl rfl ?_
                                  refine RefL.skip rfl rfl ?_
                                  refine RefL.skip rfl rfl ?_
                                  refine RefL.pure rfl rfl (RanP.pickT rfl rfl) ?_
                                  refine RefL.nil ?_
                                  exact RefE.fin (s := true) ⟨rfl, rfl, rfl, rfl, rfl, rfl, trivial⟩
                                · refine RefL.pure rfl rfl (RanP.move rfl) ?_
                                  refine RefL.pure rfl rfl (RanP.move rfl) ?_
                                  refine RefL.pure rfl rfl (RanP.lenSl rfl Try.underlying22 rfl) ?_
                                  refine RefL.pure rfl rfl (RanP.eql rfl rfl) ?_
                                  refine RefL.pure rfl rfl (RanP.pickF rfl rfl) ?_
                                  refine RefL.nil ?_
                                  exact RefE.fin (s := (s569 == (a0.n : Int))) ⟨rfl, rfl, rfl, rfl, rfl, rfl, trivial⟩
                              · intro x572
                                refine RefL.nil ?_
                                refine RefE.next ?_
                                refine RefC.cond rfl ?_ ?_
                                · refine RefC.seq ?_
                                  refine RefC.region ?_
                                  refine RefL.pure rfl rfl (RanP.assign rfl) ?_
                                  refine RefL.nil ?_
                                  refine RefE.next ?_
                                  refine RefC.ret ?_
                                  refine RefE.thenRet ?_
                                  refine RefE.blockRet ?_
                                  refine RefE.finR ?_
                                  refine RefE.thenRet ?_
                                  refine RefE.roundRet ?_
                                  refine RefE.blockRet ?_
                                  refine RefE.finR ?_
                                  refine RefE.thenRet ?_
                                  refine RefE.retV rfl ?_
                                  refine RefV.tmp rfl ?_
                                  exact RefV.nil rfl
                                · refine RefC.skip ?_
                                  refine RefE.next ?_
                                  refine RefC.region ?_
                                  refine RefL.pure rfl rfl (RanP.move rfl) ?_
                                  refine RefL.pure rfl rfl (RanP.add rfl rfl) ?_
                                  refine RefL.pure rfl rfl (RanP.assign rfl) ?_
                                  refine RefL.lt 15 (fun y => .int .i64 y) rfl fun x573 => ?_
                                  refine RefL.nil ?_
                                  refine RefE.blockNormal ?_
                                  exact RefE.finL (s := (x573)) ⟨rfl, rfl, rfl, rfl, rfl, trivial⟩
                          · intro s574
                            refine RefE.next ?_
                            refine RefC.region ?_
                            refine RefL.pure rfl rfl (RanP.move rfl) ?_
                            refine RefL.pure rfl rfl (RanP.add rfl rfl) ?_
                            refine RefL.pure rfl rfl (RanP.assign rfl) ?_
                            refine RefL.lt 16 (fun y => .int .i64 y) rfl fun x575 => ?_
                            refine RefL.nil ?_
                            exact RefE.again (ih (s574, x575)) ⟨rfl, rfl, rfl, rfl, rfl, trivial⟩
                        · refine RefC.exit ?_
                          refine RefE.thenExit ?_
                          refine RefE.roundExit ?_
                          refine RefE.blockExit ?_
                          exact RefE.finL (s := ()) ⟨rfl, rfl, trivial⟩
                      · intro s576
                        refine RefE.next ?_
                        refine RefC.seq ?_
                        refine RefC.region ?_
                        refine RefL.pure rfl rfl (RanP.move rfl) ?_
                        refine RefL.pure rfl rfl (RanP.lenSl rfl Try.underlying54 rfl) ?_
                        refine RefL.pure rfl rfl (RanP.eql rfl rfl) ?_
                        refine RefL.pure rfl rfl (RanP.move rfl) ?_
                        refine RefL.cut (enc := fun (x577 : Bool) => ([(183, .bool x577)] : Env)) 10 ?_ ?_
                        · refine RefL.ite (s := 173) rfl ?_ ?_
                          · refine RefL.skip rfl rfl ?_
                            refine RefL.skip rfl rfl ?_
                            refine RefL.skip rfl rfl ?_
                            refine RefL.skip rfl rfl ?_
                            refine RefL.skip rfl rfl ?_
                            refine RefL.skip rfl rfl ?_
                            refine RefL.skip rfl rfl ?_
                            refine RefL.skip rfl rfl ?_
                            refine RefL.skip rfl rfl ?_
                            refine RefL.pure rfl rfl (RanP.pickT rfl rfl) ?_
                            refine RefL.nil ?_
                            exact RefE.fin (s := true) ⟨rfl, trivial⟩
                          · refine RefL.pure rfl rfl (RanP.move rfl) ?_
                            refine RefL.pure rfl rfl (RanP.move rfl) ?_
                            refine RefL.pure rfl rfl (RanP.lenSl rfl Try.underlying54 rfl) ?_
                            refine RefL.pure rfl rfl (RanP.sub rfl rfl) ?_
                            refine RefL.li rfl rfl (Lt.ixA Try.underlying54 Try.sizeOf59 rfl rfl fun x578 => ?_)
                            refine RefL.pure rfl rfl (RanP.fieldAddr fa_59_4 rfl) ?_
                            refine RefL.li rfl rfl (Lt.ldS Try.isAgg9 rfl fun x579 => ?_)
                            refine RefL.pure rfl rfl (RanP.move rfl) ?_
                            refine RefL.pure rfl rfl (RanP.eqlS rfl rfl) ?_
                            refine RefL.pure rfl rfl (RanP.pickF rfl rfl) ?_
                            refine RefL.nil ?_
                            exact RefE.fin (s := (sEq x579 s134.2)) ⟨rfl, trivial⟩
                        · intro x577
                          refine RefL.pure rfl rfl (RanP.assign rfl) ?_
                          refine RefL.nil ?_
                          refine RefE.next ?_
                          refine RefC.ret ?_
                          refine RefE.retV rfl ?_
                          refine RefV.tmp rfl ?_
                          exact RefV.nil rfl

end Go.Proofs.Ytjdnjlnfcbaokaa

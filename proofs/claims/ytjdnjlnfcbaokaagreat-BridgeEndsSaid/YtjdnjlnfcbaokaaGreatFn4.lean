/-
  Go functions as programs over the world, and that the model's code does what they say. Printed by gen.py (own work).
-/
import Derived.Test.YtjdnjlnfcbaokaaGreatFn3
set_option linter.unusedVariables false
set_option linter.unusedSimpArgs false
namespace Go.Proofs.YtjdnjlnfcbaokaaGreat
open Go Go.Lg

def utf_Checker_Reset (K : Nat) (a0 : Option Addr) : G (Unit) :=
  nn a0 fun x1 =>
  st x1 (.agg (Agg.cells (Tutf_Checker.mk (0 : Int) (0 : Int) (0 : Int) (0 : Int) false)).toArray) <|
  ret ()
set_option maxRecDepth 100000 in
theorem utf_Checker_Reset_ref (K : Nat) (a0 : Option Addr) : Does Tryz.prog 166 [.pointer a0] (utf_Checker_Reset K a0) (fun _ => .tuple #[]) := by
  refine Does.of Tryz.func166 rfl rfl rfl ?_
  unfold utf_Checker_Reset
  refine RefC.region ?_
  refine RefL.pure rfl rfl (RanP.move rfl) ?_
  refine RefL.pure rfl rfl (RanP.build rfl (v := .agg (Agg.cells (Tutf_Checker.mk (0 : Int) (0 : Int) (0 : Int) (0 : Int) false)).toArray) (fun _ => by kernel_rfl)) ?_
  refine RefL.li rfl rfl (Lt.nn rfl fun x1 => ?_)
  refine RefL.hv rfl rfl (Hv.st Tryz.sizeOf200 rfl rfl rfl ?_)
  refine RefL.nil ?_
  refine RefE.endV rfl ?_
  exact RefV.nil rfl

def utf_Checker_Right (K : Nat) (a0 : Option Addr) : G (Bool) :=
  nn a0 fun x1 =>
  ldB (x1.add 4) fun x2 =>
  lt (!x2) fun x3 =>
  ret x3
set_option maxRecDepth 100000 in
theorem utf_Checker_Right_ref (K : Nat) (a0 : Option Addr) : Does Tryz.prog 169 [.pointer a0] (utf_Checker_Right K a0) (fun r => .bool r) := by
  refine Does.of Tryz.func169 rfl rfl rfl ?_
  unfold utf_Checker_Right
  refine RefC.seq ?_
  refine RefC.region ?_
  refine RefL.pure rfl rfl (RanP.assign rfl) ?_
  refine RefL.nil ?_
  refine RefE.next ?_
  refine RefC.seq ?_
  refine RefC.region ?_
  refine RefL.pure rfl rfl (RanP.move rfl) ?_
  refine RefL.li rfl rfl (Lt.nn rfl fun x1 => ?_)
  refine RefL.pure rfl rfl (RanP.fieldAddr fa_200_3 rfl) ?_
  refine RefL.li rfl rfl (Lt.ldB Tryz.isAgg4 rfl fun x2 => ?_)
  refine RefL.pure rfl rfl (RanP.not rfl) ?_
  refine RefL.pure rfl rfl (RanP.assign rfl) ?_
  refine RefL.lt 2 (fun y => .bool y) rfl fun x3 => ?_
  refine RefL.nil ?_
  refine RefE.next ?_
  refine RefC.ret ?_
  refine RefE.retV rfl ?_
  refine RefV.tmp rfl ?_
  exact RefV.nil rfl

def msg_Machine_data_1 (K : Nat) (a0 : Addr) (a1 : Addr) : G (Bool) :=
  drw <|
  wld fun w2 =>
  ldP a0 fun x1 =>
  nn x1 fun x3 =>
  wld fun w5 =>
  ldP (x3.add 3) fun x4 =>
  ldS (a1.add 7) fun x6 =>
  bytesOf 5 x6 fun x7 =>
  agr (like a0 1 w2) <|
  agr (like (x3.add 3) 1 w5) <|
  bnd (utf_Checker_Feed K x4 x7) fun x8 =>
  ldP a0 fun x9 =>
  nn x9 fun x10 =>
  ldP (x10.add 3) fun x11 =>
  bnd (utf_Checker_Right K x11) fun x12 =>
  bnd (
    if (!x12) = true then
      ret true
    else
      ldB (a1.add 0) fun x14 =>
      bnd (
        if x14 = true then
          ldP a0 fun x16 =>
          nn x16 fun x17 =>
          ldP (x17.add 3) fun x18 =>
          bnd (utf_Checker_Whole K x18) fun x19 =>
          ret (!x19)
        else
          ret false) fun (x15 : Bool) =>
      ret x15) fun (x13 : Bool) =>
  ret x13
set_option maxRecDepth 100000 in
theorem msg_Machine_data_1_ref (K : Nat) (a0 : Addr) (a1 : Addr) : Does Tryz.prog 167 [.pointer (some a0), .pointer (some a1)] (msg_Machine_data_1 K a0 a1) (fun r => .bool r) := by
  refine Does.of Tryz.func167 rfl rfl rfl ?_
  unfold msg_Machine_data_1
  refine RefC.seq ?_
  refine RefC.region ?_
  refine RefL.pure rfl rfl (RanP.assign rfl) ?_
  refine RefL.nil ?_
  refine RefE.next ?_
  refine RefC.seq ?_
  refine RefC.draw mixed [0, 1, 3, 7, 0, 16, 48, 127] [.li 0, .lp 1, .lp 2, .li 3, .lp 4, .li 5, .hv 6, .re 0, .re 3, .hv 7] (by kernel_rfl) ?_
  refine RefD.li (at_ rfl) rfl fun w2 => (Lt.ldP Tryz.isAgg104 rfl fun x1 => ?_)
  refine RefD.any (at_ rfl) rfl (Lt.nn rfl fun x3 => ?_)
  refine RefD.pure (at_ rfl) rfl (RanP.fieldAddr fa_163_3 rfl) ?_
  refine RefD.li (at_ rfl) rfl fun w5 => (Lt.ldP Tryz.isAgg160 rfl fun x4 => ?_)
  refine RefD.pure (at_ rfl) rfl (RanP.fieldAddr fa_61_4 rfl) ?_
  refine RefD.li0 (at_ rfl) rfl (Lt.ldS Tryz.isAgg9 rfl fun x6 => ?_)
  refine RefD.hv (at_ rfl) rfl (Hv.bytesOf Tryz.underlying9 Tryz.underlying49 Tryz.underlying5 rfl fun x7 => ?_)
  refine RefD.re rfl ?_
  refine RefD.re rfl ?_
  refine RefD.hv (at_ rfl) rfl (Hv.call (utf_Checker_Feed_ref K x4 x7) Tryz.call168 rfl rfl rfl fun x8 => ?_)
  refine RefD.nil ?_
  refine RefE.next ?_
  refine RefC.seq ?_
  refine RefC.region ?_
  refine RefL.li rfl rfl (Lt.ldP Tryz.isAgg104 rfl fun x9 => ?_)
  refine RefL.li rfl rfl (Lt.nn rfl fun x10 => ?_)
  refine RefL.pure rfl rfl (RanP.fieldAddr fa_163_3 rfl) ?_
  refine RefL.li rfl rfl (Lt.ldP Tryz.isAgg160 rfl fun x11 => ?_)
  refine RefL.hv rfl rfl (Hv.call (utf_Checker_Right_ref K x11) Tryz.call169 rfl rfl rfl fun x12 => ?_)
  refine RefL.pure rfl rfl (RanP.not rfl) ?_
  refine RefL.pure rfl rfl (RanP.move rfl) ?_
  refine RefL.cut (enc := fun (x13 : Bool) => ([(28, .bool x13)] : Env)) 11 ?_ ?_
  · refine RefL.ite (s := 17) rfl ?_ ?_
    · refine RefL.skip rfl rfl ?_
      refine RefL.skip rfl rfl ?_
      refine RefL.skip rfl rfl ?_
      refine RefL.skip rfl rfl ?_
      refine RefL.skip rfl rfl ?_
      refine RefL.skip rfl rfl ?_
      refine RefL.skip rfl rfl ?_
      refine RefL.skip rfl rfl ?_
      refine RefL.skip rfl rfl ?_
      refine RefL.skip rfl rfl ?_
      refine RefL.pure rfl rfl (RanP.pickT rfl rfl) ?_
      refine RefL.nil ?_
      exact RefE.fin (s := true) ⟨rfl, trivial⟩
    · refine RefL.pure rfl rfl (RanP.fieldAddr fa_61_0 rfl) ?_
      refine RefL.li rfl rfl (Lt.ldB Tryz.isAgg4 rfl fun x14 => ?_)
      refine RefL.pure rfl rfl (RanP.move rfl) ?_
      refine RefL.cut (enc := fun (x15 : Bool) => ([(27, .bool x15), (17, .bool false)] : Env)) 7 ?_ ?_
      · refine RefL.ite (s := 20) rfl ?_ ?_
        · refine RefL.li rfl rfl (Lt.ldP Tryz.isAgg104 rfl fun x16 => ?_)
          refine RefL.li rfl rfl (Lt.nn rfl fun x17 => ?_)
          refine RefL.pure rfl rfl (RanP.fieldAddr fa_163_3 rfl) ?_
          refine RefL.li rfl rfl (Lt.ldP Tryz.isAgg160 rfl fun x18 => ?_)
          refine RefL.hv rfl rfl (Hv.call (utf_Checker_Whole_ref K x18) Tryz.call170 rfl rfl rfl fun x19 => ?_)
          refine RefL.pure rfl rfl (RanP.not rfl) ?_
          refine RefL.pure rfl rfl (RanP.pickT rfl rfl) ?_
          refine RefL.nil ?_
          exact RefE.fin (s := (!x19)) ⟨rfl, rfl, trivial⟩
        · refine RefL.skip rfl rfl ?_
          refine RefL.skip rfl rfl ?_
          refine RefL.skip rfl rfl ?_
          refine RefL.skip rfl rfl ?_
          refine RefL.skip rfl rfl ?_
          refine RefL.skip rfl rfl ?_
          refine RefL.pure rfl rfl (RanP.pickF rfl rfl) ?_
          refine RefL.nil ?_
          exact RefE.fin (s := false) ⟨rfl, rfl, trivial⟩
      · intro x15
        refine RefL.pure rfl rfl (RanP.pickF rfl rfl) ?_
        refine RefL.nil ?_
        exact RefE.fin (s := x15) ⟨rfl, trivial⟩
  · intro x13
    refine RefL.pure rfl rfl (RanP.assign rfl) ?_
    refine RefL.nil ?_
    refine RefE.next ?_
    refine RefC.ret ?_
    refine RefE.retV rfl ?_
    refine RefV.tmp rfl ?_
    exact RefV.nil rfl

def msg_Machine_data (K : Nat) (a0 : Option Addr) (a1 : Tapi_Frame) : G (Tapi_Event × Bool × Int) :=
  new [.pointer a0] 104 fun x1 =>
  new (Agg.cells a1) 61 fun x2 =>
  new [.int .i64 (0 : Int), .int .i64 (0 : Int), .string (ByteArray.mk #[])] 52 fun x3 =>
  drw <|
  ldI .i64 (x2.add 1) fun x4 =>
  ldP x1 fun x5 =>
  nn x5 fun x6 =>
  ldI .i64 (x6.add 1) fun x7 =>
  if (!((x4 == (0 : Int)) == (x7 != (0 : Int)))) = true then
    ldP x1 fun x8 =>
    bnd (msg_Machine_stop K x8 (120 : Int)) fun x9 =>
    st x3 (.agg (Agg.cells x9.1).toArray) <|
    ldG (α := Tapi_Event) x3 fun r10 =>
    ret (r10, x9.2.1, x9.2.2)
  else
    ldP x1 fun x11 =>
    nn x11 fun x12 =>
    ldI .i64 (x12.add 1) fun x13 =>
    bnd (
      if (x13 == (0 : Int)) = true then
        ldP x1 fun x21 =>
        ldI .i64 (x2.add 1) fun x22 =>
        nn x21 fun x23 =>
        st (x23.add 1) (.int .i64 x22) <|
        ldP x1 fun x24 =>
        nn x24 fun x25 =>
        ldP (x25.add 3) fun x26 =>
        bnd (utf_Checker_Reset K x26) fun x27 =>
        ret ()
      else
        ret ()) fun (s28 : Unit) =>
    drw <|
    ldP x1 fun x29 =>
    nn x29 fun x30 =>
    ldSl (x30.add 2) fun x31 =>
    ldS (x2.add 7) fun x32 =>
    ldP x1 fun x33 =>
    nn x33 fun x34 =>
    ldI .i64 (x34.add 0) fun x35 =>
    if (decide (x35 < (IntKind.wrap .i64 ((x31.n : Int) + (x32.size : Int))))) = true then
      ldP x1 fun x36 =>
      bnd (msg_Machine_stop K x36 (121 : Int)) fun x37 =>
      st x3 (.agg (Agg.cells x37.1).toArray) <|
      ldG (α := Tapi_Event) x3 fun r38 =>
      ret (r38, x37.2.1, x37.2.2)
    else
      ldP x1 fun x39 =>
      nn x39 fun x40 =>
      ldI .i64 (x40.add 1) fun x41 =>
      bnd (
        if (x41 == (1 : Int)) = true then
          bnd (msg_Machine_data_1 K x1 x2) fun x43 =>
          ret x43
        else
          ret false) fun (x42 : Bool) =>
      if x42 = true then
        ldP x1 fun x44 =>
        bnd (msg_Machine_stop K x44 (122 : Int)) fun x45 =>
        st x3 (.agg (Agg.cells x45.1).toArray) <|
        ldG (α := Tapi_Event) x3 fun r46 =>
        ret (r46, x45.2.1, x45.2.2)
      else
        drw <|
        wld fun w48 =>
        ldP x1 fun x47 =>
        ldP x1 fun x49 =>
        nn x49 fun x50 =>
        ldSl (x50.add 2) fun x51 =>
        ldS (x2.add 7) fun x52 =>
        appT 5 [.int .u8 (0 : Int)] x51 x52 fun x53 =>
        agr (like x1 1 w48) <|
        nn x47 fun x54 =>
        st (x54.add 2) (.slice x53.a x53.n x53.c) <|
        ldB (x2.add 0) fun x55 =>
        if (!x55) = true then
          st x3 (.agg (Agg.cells (Tapi_Event.mk (0 : Int) (0 : Int) (ByteArray.mk #[]))).toArray) <|
          ldG (α := Tapi_Event) x3 fun r56 =>
          ret (r56, false, (0 : Int))
        else
          drw <|
          wld fun w58 =>
          ldP x1 fun x57 =>
          nn x57 fun x59 =>
          wld fun w61 =>
          ldI .i64 (x59.add 1) fun x60 =>
          wld fun w63 =>
          ldP x1 fun x62 =>
          nn x62 fun x64 =>
          wld fun w66 =>
          ldSl (x64.add 2) fun x65 =>
          wld fun w68 =>
          strOf x65 fun x67 =>
          new [.int .i64 (0 : Int), .int .i64 (0 : Int), .string (ByteArray.mk #[])] 52 fun x69 =>
          agr (like x1 1 w58) <|
          agr (like (x59.add 1) 1 w61) <|
          agr (like x1 1 w63) <|
          agr (like (x64.add 2) 1 w66) <|
          agr (likeS x65 1 w68) <|
          st x69 (.agg (Agg.cells (Tapi_Event.mk x60 (0 : Int) x67)).toArray) <|
          ldP x1 fun x70 =>
          bnd (msg_Machine_stop K x70 (0 : Int)) fun x71 =>
          ldG (α := Tapi_Event) x69 fun x72 =>
          st x3 (.agg (Agg.cells x72).toArray) <|
          ldG (α := Tapi_Event) x3 fun r73 =>
          ret (r73, true, (0 : Int))
set_option maxRecDepth 100000 in
theorem msg_Machine_data_ref (K : Nat) (a0 : Option Addr) (a1 : Tapi_Frame) : Does Tryz.prog 143 [.pointer a0, .agg (Agg.cells a1).toArray] (msg_Machine_data K a0 a1) (fun r => .tuple #[.agg (Agg.cells r.1).toArray, .bool r.2.1, .int .i64 r.2.2]) := by
  refine Does.of Tryz.func143 rfl rfl rfl ?_
  unfold msg_Machine_data
  refine RefC.seq ?_
  refine RefC.region ?_
  refine RefL.hv rfl rfl (Hv.box rfl rfl fun x1 => ?_)
  refine RefL.hv rfl rfl (Hv.box rfl rfl fun x2 => ?_)
  refine RefL.hv rfl rfl (Hv.newZ Tryz.zeroValue52 rfl fun x3 => ?_)
  refine RefL.pure rfl rfl (RanP.assign rfl) ?_
  refine RefL.pure rfl rfl (RanP.assign rfl) ?_
  refine RefL.nil ?_
  refine RefE.next ?_
  refine RefC.seq ?_
  refine RefC.seq ?_
  refine RefC.draw mixed [0, 1, 3, 0, 8, 24, 56, 120, 255] [.lp 0, .li 1, .lp 2, .li 3, .lp 4, .lp 5, .li 6, .lp 7, .lp 8] (by kernel_rfl) ?_
  refine RefD.pure (at_ rfl) rfl (RanP.fieldAddr fa_61_1 rfl) ?_
  refine RefD.li0 (at_ rfl) rfl (Lt.ldI Tryz.isAgg3 rfl fun x4 => ?_)
  refine RefD.pure (at_ rfl) rfl (RanP.eql rfl rfl) ?_
  refine RefD.li0 (at_ rfl) rfl (Lt.ldP Tryz.isAgg104 rfl fun x5 => ?_)
  refine RefD.any (at_ rfl) rfl (Lt.nn rfl fun x6 => ?_)
  refine RefD.pure (at_ rfl) rfl (RanP.fieldAddr fa_163_1 rfl) ?_
  refine RefD.li0 (at_ rfl) rfl (Lt.ldI Tryz.isAgg3 rfl fun x7 => ?_)
  refine RefD.pure (at_ rfl) rfl (RanP.neq rfl rfl) ?_
  refine RefD.pure (at_ rfl) rfl (RanP.neqB Tryz.underlying4 rfl rfl) ?_
  refine RefD.nil ?_
  refine RefE.next ?_
  refine RefC.cond rfl ?_ ?_
  · refine RefC.seq ?_
    refine RefC.region ?_
    refine RefL.li rfl rfl (Lt.ldP Tryz.isAgg104 rfl fun x8 => ?_)
    refine RefL.hv rfl rfl (Hv.call (msg_Machine_stop_ref K x8 (120 : Int)) Tryz.call140 rfl rfl rfl fun x9 => ?_)
    refine RefL.pure rfl rfl (RanP.extract rfl rfl) ?_
    refine RefL.pure rfl rfl (RanP.extract rfl rfl) ?_
    refine RefL.pure rfl rfl (RanP.extract rfl rfl) ?_
    refine RefL.hv rfl rfl (Hv.st Tryz.sizeOf52 rfl rfl rfl ?_)
    refine RefL.pure rfl rfl (RanP.assign rfl) ?_
    refine RefL.pure rfl rfl (RanP.assign rfl) ?_
    refine RefL.nil ?_
    refine RefE.next ?_
    refine RefC.ret ?_
    refine RefE.thenRet ?_
    refine RefE.retV rfl ?_
    refine RefV.cellG Tryz.isAgg52 Tryz.sizeOf52 rfl fun r10 => ?_
    refine RefV.tmp rfl ?_
    refine RefV.tmp rfl ?_
    exact RefV.nil rfl
  · refine RefC.skip ?_
    refine RefE.next ?_
    refine RefC.seq ?_
    refine RefC.seq ?_
    refine RefC.region ?_
    refine RefL.li rfl rfl (Lt.ldP Tryz.isAgg104 rfl fun x11 => ?_)
    refine RefL.li rfl rfl (Lt.nn rfl fun x12 => ?_)
    refine RefL.pure rfl rfl (RanP.fieldAddr fa_163_1 rfl) ?_
    refine RefL.li rfl rfl (Lt.ldI Tryz.isAgg3 rfl fun x13 => ?_)
    refine RefL.pure rfl rfl (RanP.eql rfl rfl) ?_
    refine RefL.nil ?_
    refine RefE.next ?_
    refine RefC.cut (enc := fun (s28 : Unit) => ([(2, .pointer (some x1)), (3, .pointer (some x2)), (4, .pointer (some x3))] : Env)) ?_ ?_
    · refine RefC.cond rfl ?_ ?_
      · refine RefC.seq ?_
        refine RefC.region ?_
        refine RefL.li rfl rfl (Lt.ldP Tryz.isAgg104 rfl fun x21 => ?_)
        refine RefL.pure rfl rfl (RanP.fieldAddr fa_61_1 rfl) ?_
        refine RefL.li rfl rfl (Lt.ldI Tryz.isAgg3 rfl fun x22 => ?_)
        refine RefL.li rfl rfl (Lt.nn rfl fun x23 => ?_)
        refine RefL.pure rfl rfl (RanP.fieldAddr fa_163_1 rfl) ?_
        refine RefL.hv rfl rfl (Hv.st Tryz.sizeOf3 rfl rfl rfl ?_)
        refine RefL.nil ?_
        refine RefE.next ?_
        refine RefC.region ?_
        refine RefL.li rfl rfl (Lt.ldP Tryz.isAgg104 rfl fun x24 => ?_)
        refine RefL.li rfl rfl (Lt.nn rfl fun x25 => ?_)
        refine RefL.pure rfl rfl (RanP.fieldAddr fa_163_3 rfl) ?_
        refine RefL.li rfl rfl (Lt.ldP Tryz.isAgg160 rfl fun x26 => ?_)
        refine RefL.hv rfl rfl (Hv.call (utf_Checker_Reset_ref K x26) Tryz.call166 rfl rfl rfl fun x27 => ?_)
        refine RefL.nil ?_
        exact RefE.fin (s := ()) ⟨rfl, rfl, rfl, trivial⟩
      · refine RefC.skip ?_
        exact RefE.fin (s := ()) ⟨rfl, rfl, rfl, trivial⟩
    · intro s28
      refine RefE.next ?_
      refine RefC.seq ?_
      refine RefC.seq ?_
      refine RefC.draw mixed [0, 1, 3, 7, 15, 0, 32, 96, 255, 0, 512, 1536, 3584, 8191] [.li 0, .lp 1, .lp 2, .li 3, .lp 4, .lp 5, .li 6, .lp 7, .lp 8, .li 9, .lp 10, .lp 11, .li 12, .lp 13] (by kernel_rfl) ?_
      refine RefD.li0 (at_ rfl) rfl (Lt.ldP Tryz.isAgg104 rfl fun x29 => ?_)
      refine RefD.any (at_ rfl) rfl (Lt.nn rfl fun x30 => ?_)
      refine RefD.pure (at_ rfl) rfl (RanP.fieldAddr fa_163_2 rfl) ?_
      refine RefD.li0 (at_ rfl) rfl (Lt.ldSl Tryz.isAgg49 rfl fun x31 => ?_)
      refine RefD.pure (at_ rfl) rfl (RanP.lenSl rfl Tryz.underlying49 rfl) ?_
      refine RefD.pure (at_ rfl) rfl (RanP.fieldAddr fa_61_4 rfl) ?_
      refine RefD.li0 (at_ rfl) rfl (Lt.ldS Tryz.isAgg9 rfl fun x32 => ?_)
      refine RefD.pure (at_ rfl) rfl (RanP.lenS rfl Tryz.underlying9 rfl) ?_
      refine RefD.pure (at_ rfl) rfl (RanP.add rfl rfl) ?_
      refine RefD.li0 (at_ rfl) rfl (Lt.ldP Tryz.isAgg104 rfl fun x33 => ?_)
      refine RefD.any (at_ rfl) rfl (Lt.nn rfl fun x34 => ?_)
      refine RefD.pure (at_ rfl) rfl (RanP.fieldAddr fa_163_0 rfl) ?_
      refine RefD.li0 (at_ rfl) rfl (Lt.ldI Tryz.isAgg3 rfl fun x35 => ?_)
      refine RefD.pure (at_ rfl) rfl (RanP.gtr rfl rfl) ?_
      refine RefD.nil ?_
      refine RefE.next ?_
      refine RefC.cond rfl ?_ ?_
      · refine RefC.seq ?_
        refine RefC.region ?_
        refine RefL.li rfl rfl (Lt.ldP Tryz.isAgg104 rfl fun x36 => ?_)
        refine RefL.hv rfl rfl (Hv.call (msg_Machine_stop_ref K x36 (121 : Int)) Tryz.call140 rfl rfl rfl fun x37 => ?_)
        refine RefL.pure rfl rfl (RanP.extract rfl rfl) ?_
        refine RefL.pure rfl rfl (RanP.extract rfl rfl) ?_
        refine RefL.pure rfl rfl (RanP.extract rfl rfl) ?_
        refine RefL.hv rfl rfl (Hv.st Tryz.sizeOf52 rfl rfl rfl ?_)
        refine RefL.pure rfl rfl (RanP.assign rfl) ?_
        refine RefL.pure rfl rfl (RanP.assign rfl) ?_
        refine RefL.nil ?_
        refine RefE.next ?_
        refine RefC.ret ?_
        refine RefE.thenRet ?_
        refine RefE.retV rfl ?_
        refine RefV.cellG Tryz.isAgg52 Tryz.sizeOf52 rfl fun r38 => ?_
        refine RefV.tmp rfl ?_
        refine RefV.tmp rfl ?_
        exact RefV.nil rfl
      · refine RefC.skip ?_
        refine RefE.next ?_
        refine RefC.seq ?_
        refine RefC.region ?_
        refine RefL.pure rfl rfl (RanP.makeFunc rfl rfl) ?_
        refine RefL.pure rfl rfl (RanP.assign rfl) ?_
        refine RefL.nil ?_
        refine RefE.next ?_
        refine RefC.seq ?_
        refine RefC.seq ?_
        refine RefC.region ?_
        refine RefL.li rfl rfl (Lt.ldP Tryz.isAgg104 rfl fun x39 => ?_)
        refine RefL.li rfl rfl (Lt.nn rfl fun x40 => ?_)
        refine RefL.pure rfl rfl (RanP.fieldAddr fa_163_1 rfl) ?_
        refine RefL.li rfl rfl (Lt.ldI Tryz.isAgg3 rfl fun x41 => ?_)
        refine RefL.pure rfl rfl (RanP.eql rfl rfl) ?_
        refine RefL.pure rfl rfl (RanP.move rfl) ?_
        refine RefL.cut (enc := fun (x42 : Bool) => ([(66, .bool x42), (2, .pointer (some x1)), (3, .pointer (some x2)), (4, .pointer (some x3))] : Env)) 3 ?_ ?_
        · refine RefL.ite (s := 63) rfl ?_ ?_
          · refine RefL.pure rfl rfl (RanP.move rfl) ?_
            refine RefL.hv rfl rfl (Hv.call (msg_Machine_data_1_ref K x1 x2) Tryz.call167 rfl rfl rfl fun x43 => ?_)
            refine RefL.pure rfl rfl (RanP.pickT rfl rfl) ?_
            refine RefL.nil ?_
            exact RefE.fin (s := x43) ⟨rfl, rfl, rfl, rfl, trivial⟩
          · refine RefL.skip rfl rfl ?_
            refine RefL.skip rfl rfl ?_
            refine RefL.pure rfl rfl (RanP.pickF rfl rfl) ?_
            refine RefL.nil ?_
            exact RefE.fin (s := false) ⟨rfl, rfl, rfl, rfl, trivial⟩
        · intro x42
          refine RefL.nil ?_
          refine RefE.next ?_
          refine RefC.cond rfl ?_ ?_
          · refine RefC.seq ?_
            refine RefC.region ?_
            refine RefL.li rfl rfl (Lt.ldP Tryz.isAgg104 rfl fun x44 => ?_)
            refine RefL.hv rfl rfl (Hv.call (msg_Machine_stop_ref K x44 (122 : Int)) Tryz.call140 rfl rfl rfl fun x45 => ?_)
            refine RefL.pure rfl rfl (RanP.extract rfl rfl) ?_
            refine RefL.pure rfl rfl (RanP.extract rfl rfl) ?_
            refine RefL.pure rfl rfl (RanP.extract rfl rfl) ?_
            refine RefL.hv rfl rfl (Hv.st Tryz.sizeOf52 rfl rfl rfl ?_)
            refine RefL.pure rfl rfl (RanP.assign rfl) ?_
            refine RefL.pure rfl rfl (RanP.assign rfl) ?_
            refine RefL.nil ?_
            refine RefE.next ?_
            refine RefC.ret ?_
            refine RefE.thenRet ?_
            refine RefE.retV rfl ?_
            refine RefV.cellG Tryz.isAgg52 Tryz.sizeOf52 rfl fun r46 => ?_
            refine RefV.tmp rfl ?_
            refine RefV.tmp rfl ?_
            exact RefV.nil rfl
          · refine RefC.skip ?_
            refine RefE.next ?_
            refine RefC.seq ?_
            refine RefC.draw mixed [0, 0, 2, 6, 14, 0, 32, 126, 255, 511, 1023] [.li 0, .li 1, .lp 2, .lp 3, .li 4, .lp 5, .li 6, .hv 7, .re 0, .lp 8, .lp 9, .hv 10] (by kernel_rfl) ?_
            refine RefD.li (at_ rfl) rfl fun w48 => (Lt.ldP Tryz.isAgg104 rfl fun x47 => ?_)
            refine RefD.li0 (at_ rfl) rfl (Lt.ldP Tryz.isAgg104 rfl fun x49 => ?_)
            refine RefD.any (at_ rfl) rfl (Lt.nn rfl fun x50 => ?_)
            refine RefD.pure (at_ rfl) rfl (RanP.fieldAddr fa_163_2 rfl) ?_
            refine RefD.li0 (at_ rfl) rfl (Lt.ldSl Tryz.isAgg49 rfl fun x51 => ?_)
            refine RefD.pure (at_ rfl) rfl (RanP.fieldAddr fa_61_4 rfl) ?_
            refine RefD.li0 (at_ rfl) rfl (Lt.ldS Tryz.isAgg9 rfl fun x52 => ?_)
            refine RefD.hv (at_ rfl) rfl (Hv.appT (i := Tryz.t5) rfl Tryz.underlying49 Tryz.underlying9 rfl rfl rfl rfl rfl rfl fun x53 => ?_)
            refine RefD.re rfl ?_
            refine RefD.any (at_ rfl) rfl (Lt.nn rfl fun x54 => ?_)
            refine RefD.pure (at_ rfl) rfl (RanP.fieldAddr fa_163_2 rfl) ?_
            refine RefD.hv (at_ rfl) rfl (Hv.st Tryz.sizeOf49 rfl rfl rfl ?_)
            refine RefD.nil ?_
            refine RefE.next ?_
            refine RefC.seq ?_
            refine RefC.seq ?_
            refine RefC.region ?_
            refine RefL.pure rfl rfl (RanP.fieldAddr fa_61_0 rfl) ?_
            refine RefL.li rfl rfl (Lt.ldB Tryz.isAgg4 rfl fun x55 => ?_)
            refine RefL.pure rfl rfl (RanP.not rfl) ?_
            refine RefL.nil ?_
            refine RefE.next ?_
            refine RefC.cond rfl ?_ ?_
            · refine RefC.seq ?_
              refine RefC.region ?_
              refine RefL.pure rfl rfl (RanP.build rfl (v := .agg (Agg.cells (Tapi_Event.mk (0 : Int) (0 : Int) (ByteArray.mk #[]))).toArray) (fun _ => by kernel_rfl)) ?_
              refine RefL.hv rfl rfl (Hv.st Tryz.sizeOf52 rfl rfl rfl ?_)
              refine RefL.pure rfl rfl (RanP.assign rfl) ?_
              refine RefL.pure rfl rfl (RanP.assign rfl) ?_
              refine RefL.nil ?_
              refine RefE.next ?_
              refine RefC.ret ?_
              refine RefE.thenRet ?_
              refine RefE.retV rfl ?_
              refine RefV.cellG Tryz.isAgg52 Tryz.sizeOf52 rfl fun r56 => ?_
              refine RefV.tmp rfl ?_
              refine RefV.tmp rfl ?_
              exact RefV.nil rfl
            · refine RefC.skip ?_
              refine RefE.next ?_
              refine RefC.seq ?_
              refine RefC.draw mixed [0, 1, 3, 7, 0, 16, 48, 112, 240, 511, 0, 2047] [.li 0, .lp 1, .lp 2, .li 3, .li 4, .lp 5, .lp 6, .li 7, .li 8, .lp 9, .hv 10, .re 0, .re 3, .re 4, .re 7, .re 8, .hv 11] (by kernel_rfl) ?_
              refine RefD.li (at_ rfl) rfl fun w58 => (Lt.ldP Tryz.isAgg104 rfl fun x57 => ?_)
              refine RefD.any (at_ rfl) rfl (Lt.nn rfl fun x59 => ?_)
              refine RefD.pure (at_ rfl) rfl (RanP.fieldAddr fa_163_1 rfl) ?_
              refine RefD.li (at_ rfl) rfl fun w61 => (Lt.ldI Tryz.isAgg3 rfl fun x60 => ?_)
              refine RefD.li (at_ rfl) rfl fun w63 => (Lt.ldP Tryz.isAgg104 rfl fun x62 => ?_)
              refine RefD.any (at_ rfl) rfl (Lt.nn rfl fun x64 => ?_)
              refine RefD.pure (at_ rfl) rfl (RanP.fieldAddr fa_163_2 rfl) ?_
              refine RefD.li (at_ rfl) rfl fun w66 => (Lt.ldSl Tryz.isAgg49 rfl fun x65 => ?_)
              refine RefD.li (at_ rfl) rfl fun w68 => (Lt.strOf Tryz.underlying49 Tryz.underlying9 Tryz.underlying5 rfl fun x67 => ?_)
              refine RefD.pure (at_ rfl) rfl (RanP.build rfl (v := .agg (Agg.cells (Tapi_Event.mk x60 (0 : Int) x67)).toArray) (fun _ => by kernel_rfl)) ?_
              refine RefD.hv (at_ rfl) rfl (Hv.newZ Tryz.zeroValue52 rfl fun x69 => ?_)
              refine RefD.re rfl ?_
              refine RefD.re rfl ?_
              refine RefD.re rfl ?_
              refine RefD.re rfl ?_
              refine RefD.re rfl ?_
              refine RefD.hv (at_ rfl) rfl (Hv.st Tryz.sizeOf52 rfl rfl rfl ?_)
              refine RefD.nil ?_
              refine RefE.next ?_
              refine RefC.seq ?_
              refine RefC.region ?_
              refine RefL.li rfl rfl (Lt.ldP Tryz.isAgg104 rfl fun x70 => ?_)
              refine RefL.hv rfl rfl (Hv.call (msg_Machine_stop_ref K x70 (0 : Int)) Tryz.call140 rfl rfl rfl fun x71 => ?_)
              refine RefL.nil ?_
              refine RefE.next ?_
              refine RefC.seq ?_
              refine RefC.region ?_
              refine RefL.li rfl rfl (Lt.ldG (τ := Tapi_Event) Tryz.isAgg52 Tryz.sizeOf52 rfl fun x72 => ?_)
              refine RefL.hv rfl rfl (Hv.st Tryz.sizeOf52 rfl rfl rfl ?_)
              refine RefL.pure rfl rfl (RanP.assign rfl) ?_
              refine RefL.pure rfl rfl (RanP.assign rfl) ?_
              refine RefL.nil ?_
              refine RefE.next ?_
              refine RefC.ret ?_
              refine RefE.retV rfl ?_
              refine RefV.cellG Tryz.isAgg52 Tryz.sizeOf52 rfl fun r73 => ?_
              refine RefV.tmp rfl ?_
              refine RefV.tmp rfl ?_
              exact RefV.nil rfl

def msg_Machine_Take (K : Nat) (a0 : Option Addr) (a1 : Tapi_Frame) : G (Tapi_Event × Bool × Int) :=
  new (Agg.cells a1) 61 fun x1 =>
  new [.int .i64 (0 : Int), .int .i64 (0 : Int), .string (ByteArray.mk #[])] 52 fun x2 =>
  nn a0 fun x3 =>
  ldI .i64 (x3.add 5) fun x4 =>
  lt (x4 != (0 : Int)) fun x5 =>
  if x5 = true then
    drw <|
    nn a0 fun x6 =>
    wld fun w8 =>
    ldI .i64 (x6.add 5) fun x7 =>
    st x2 (.agg (Agg.cells (Tapi_Event.mk (0 : Int) (0 : Int) (ByteArray.mk #[]))).toArray) <|
    agr (like (x6.add 5) 1 w8) <|
    ldG (α := Tapi_Event) x2 fun r9 =>
    ret (r9, false, x7)
  else
    nn a0 fun x10 =>
    ldB (x10.add 4) fun x11 =>
    if x11 = true then
      st x2 (.agg (Agg.cells (Tapi_Event.mk (0 : Int) (0 : Int) (ByteArray.mk #[]))).toArray) <|
      ldG (α := Tapi_Event) x2 fun r12 =>
      ret (r12, false, (0 : Int))
    else
      ldG (α := Tapi_Frame) x1 fun x13 =>
      bnd (frame_Check K x13) fun x14 =>
      lt (x14 == (91 : Int)) fun x15 =>
      if x15 = true then
        bnd (msg_Machine_stop K a0 (120 : Int)) fun x16 =>
        st x2 (.agg (Agg.cells x16.1).toArray) <|
        ldG (α := Tapi_Event) x2 fun r17 =>
        ret (r17, x16.2.1, x16.2.2)
      else
        ldI .i64 (x1.add 1) fun x18 =>
        lt (x18 == (8 : Int)) fun x19 =>
        if x19 = true then
          ldG (α := Tapi_Frame) x1 fun x20 =>
          bnd (msg_Machine_end K a0 x20) fun x21 =>
          st x2 (.agg (Agg.cells x21.1).toArray) <|
          ldG (α := Tapi_Event) x2 fun r22 =>
          ret (r22, x21.2.1, x21.2.2)
        else
          ldI .i64 (x1.add 1) fun x23 =>
          bnd (frame_Control K x23) fun x24 =>
          if x24 = true then
            ldI .i64 (x1.add 1) fun x25 =>
            ldS (x1.add 7) fun x26 =>
            st x2 (.agg (Agg.cells (Tapi_Event.mk x25 (0 : Int) x26)).toArray) <|
            ldG (α := Tapi_Event) x2 fun r27 =>
            ret (r27, true, (0 : Int))
          else
            ldG (α := Tapi_Frame) x1 fun x28 =>
            bnd (msg_Machine_data K a0 x28) fun x29 =>
            st x2 (.agg (Agg.cells x29.1).toArray) <|
            ldG (α := Tapi_Event) x2 fun r30 =>
            ret (r30, x29.2.1, x29.2.2)
set_option maxRecDepth 100000 in
theorem msg_Machine_Take_ref (K : Nat) (a0 : Option Addr) (a1 : Tapi_Frame) : Does Tryz.prog 111 [.pointer a0, .agg (Agg.cells a1).toArray] (msg_Machine_Take K a0 a1) (fun r => .tuple #[.agg (Agg.cells r.1).toArray, .bool r.2.1, .int .i64 r.2.2]) := by
  refine Does.of Tryz.func111 rfl rfl rfl ?_
  unfold msg_Machine_Take
  refine RefC.seq ?_
  refine RefC.region ?_
  refine RefL.hv rfl rfl (Hv.box rfl rfl fun x1 => ?_)
  refine RefL.hv rfl rfl (Hv.newZ Tryz.zeroValue52 rfl fun x2 => ?_)
  refine RefL.pure rfl rfl (RanP.assign rfl) ?_
  refine RefL.pure rfl rfl (RanP.assign rfl) ?_
  refine RefL.nil ?_
  refine RefE.next ?_
  refine RefC.seq ?_
  refine RefC.block ?_
  refine RefC.seq ?_
  refine RefC.region ?_
  refine RefL.pure rfl rfl (RanP.move rfl) ?_
  refine RefL.li rfl rfl (Lt.nn rfl fun x3 => ?_)
  refine RefL.pure rfl rfl (RanP.fieldAddr fa_163_5 rfl) ?_
  refine RefL.li rfl rfl (Lt.ldI Tryz.isAgg31 rfl fun x4 => ?_)
  refine RefL.pure rfl rfl (RanP.neq rfl rfl) ?_
  refine RefL.pure rfl rfl (RanP.assign rfl) ?_
  refine RefL.lt 7 (fun y => .bool y) rfl fun x5 => ?_
  refine RefL.nil ?_
  refine RefE.next ?_
  refine RefC.cond rfl ?_ ?_
  · refine RefC.seq ?_
    refine RefC.draw mixed [0, 0, 2, 6, 14, 1, 33, 127] [.lp 0, .lp 1, .lp 2, .lp 3, .li 4, .hv 5, .re 4, .lp 6, .lp 7] (by kernel_rfl) ?_
    refine RefD.pure (at_ rfl) rfl (RanP.build rfl (v := .agg (Agg.cells (Tapi_Event.mk (0 : Int) (0 : Int) (ByteArray.mk #[]))).toArray) (fun _ => by kernel_rfl)) ?_
    refine RefD.pure (at_ rfl) rfl (RanP.move rfl) ?_
    refine RefD.any (at_ rfl) rfl (Lt.nn rfl fun x6 => ?_)
    refine RefD.pure (at_ rfl) rfl (RanP.fieldAddr fa_163_5 rfl) ?_
    refine RefD.li (at_ rfl) rfl fun w8 => (Lt.ldI Tryz.isAgg31 rfl fun x7 => ?_)
    refine RefD.hv (at_ rfl) rfl (Hv.st Tryz.sizeOf52 rfl rfl rfl ?_)
    refine RefD.re rfl ?_
    refine RefD.pure (at_ rfl) rfl (RanP.assign rfl) ?_
    refine RefD.pure (at_ rfl) rfl (RanP.assign rfl) ?_
    refine RefD.nil ?_
    refine RefE.next ?_
    refine RefC.ret ?_
    refine RefE.blockRet ?_
    refine RefE.thenRet ?_
    refine RefE.retV rfl ?_
    refine RefV.cellG Tryz.isAgg52 Tryz.sizeOf52 rfl fun r9 => ?_
    refine RefV.tmp rfl ?_
    refine RefV.tmp rfl ?_
    exact RefV.nil rfl
  · refine RefC.seq ?_
    refine RefC.region ?_
    refine RefL.pure rfl rfl (RanP.move rfl) ?_
    refine RefL.li rfl rfl (Lt.nn rfl fun x10 => ?_)
    refine RefL.pure rfl rfl (RanP.fieldAddr fa_163_4 rfl) ?_
    refine RefL.li rfl rfl (Lt.ldB Tryz.isAgg4 rfl fun x11 => ?_)
    refine RefL.pure rfl rfl (RanP.assign rfl) ?_
    refine RefL.nil ?_
    refine RefE.next ?_
    refine RefC.cond rfl ?_ ?_
    · refine RefC.seq ?_
      refine RefC.region ?_
      refine RefL.pure rfl rfl (RanP.build rfl (v := .agg (Agg.cells (Tapi_Event.mk (0 : Int) (0 : Int) (ByteArray.mk #[]))).toArray) (fun _ => by kernel_rfl)) ?_
      refine RefL.hv rfl rfl (Hv.st Tryz.sizeOf52 rfl rfl rfl ?_)
      refine RefL.pure rfl rfl (RanP.assign rfl) ?_
      refine RefL.pure rfl rfl (RanP.assign rfl) ?_
      refine RefL.nil ?_
      refine RefE.next ?_
      refine RefC.ret ?_
      refine RefE.blockRet ?_
      refine RefE.thenRet ?_
      refine RefE.retV rfl ?_
      refine RefV.cellG Tryz.isAgg52 Tryz.sizeOf52 rfl fun r12 => ?_
      refine RefV.tmp rfl ?_
      refine RefV.tmp rfl ?_
      exact RefV.nil rfl
    · refine RefC.seq ?_
      refine RefC.region ?_
      refine RefL.li rfl rfl (Lt.ldG (τ := Tapi_Frame) Tryz.isAgg61 Tryz.sizeOf61 rfl fun x13 => ?_)
      refine RefL.hv rfl rfl (Hv.call (frame_Check_ref K x13) Tryz.call139 rfl rfl rfl fun x14 => ?_)
      refine RefL.pure rfl rfl (RanP.eql rfl rfl) ?_
      refine RefL.pure rfl rfl (RanP.assign rfl) ?_
      refine RefL.lt 24 (fun y => .bool y) rfl fun x15 => ?_
      refine RefL.nil ?_
      refine RefE.next ?_
      refine RefC.cond rfl ?_ ?_
      · refine RefC.seq ?_
        refine RefC.region ?_
        refine RefL.pure rfl rfl (RanP.move rfl) ?_
        refine RefL.hv rfl rfl (Hv.call (msg_Machine_stop_ref K a0 (120 : Int)) Tryz.call140 rfl rfl rfl fun x16 => ?_)
        refine RefL.pure rfl rfl (RanP.extract rfl rfl) ?_
        refine RefL.pure rfl rfl (RanP.extract rfl rfl) ?_
        refine RefL.pure rfl rfl (RanP.extract rfl rfl) ?_
        refine RefL.hv rfl rfl (Hv.st Tryz.sizeOf52 rfl rfl rfl ?_)
        refine RefL.pure rfl rfl (RanP.assign rfl) ?_
        refine RefL.pure rfl rfl (RanP.assign rfl) ?_
        refine RefL.nil ?_
        refine RefE.next ?_
        refine RefC.ret ?_
        refine RefE.blockRet ?_
        refine RefE.thenRet ?_
        refine RefE.retV rfl ?_
        refine RefV.cellG Tryz.isAgg52 Tryz.sizeOf52 rfl fun r17 => ?_
        refine RefV.tmp rfl ?_
        refine RefV.tmp rfl ?_
        exact RefV.nil rfl
      · refine RefC.seq ?_
        refine RefC.region ?_
        refine RefL.pure rfl rfl (RanP.fieldAddr fa_61_1 rfl) ?_
        refine RefL.li rfl rfl (Lt.ldI Tryz.isAgg3 rfl fun x18 => ?_)
        refine RefL.pure rfl rfl (RanP.eql rfl rfl) ?_
        refine RefL.pure rfl rfl (RanP.assign rfl) ?_
        refine RefL.lt 33 (fun y => .bool y) rfl fun x19 => ?_
        refine RefL.nil ?_
        refine RefE.next ?_
        refine RefC.cond rfl ?_ ?_
        · refine RefC.seq ?_
          refine RefC.region ?_
          refine RefL.pure rfl rfl (RanP.move rfl) ?_
          refine RefL.li rfl rfl (Lt.ldG (τ := Tapi_Frame) Tryz.isAgg61 Tryz.sizeOf61 rfl fun x20 => ?_)
          refine RefL.hv rfl rfl (Hv.call (msg_Machine_end_ref K a0 x20) Tryz.call141 rfl rfl rfl fun x21 => ?_)
          refine RefL.pure rfl rfl (RanP.extract rfl rfl) ?_
          refine RefL.pure rfl rfl (RanP.extract rfl rfl) ?_
          refine RefL.pure rfl rfl (RanP.extract rfl rfl) ?_
          refine RefL.hv rfl rfl (Hv.st Tryz.sizeOf52 rfl rfl rfl ?_)
          refine RefL.pure rfl rfl (RanP.assign rfl) ?_
          refine RefL.pure rfl rfl (RanP.assign rfl) ?_
          refine RefL.nil ?_
          refine RefE.next ?_
          refine RefC.ret ?_
          refine RefE.blockRet ?_
          refine RefE.thenRet ?_
          refine RefE.retV rfl ?_
          refine RefV.cellG Tryz.isAgg52 Tryz.sizeOf52 rfl fun r22 => ?_
          refine RefV.tmp rfl ?_
          refine RefV.tmp rfl ?_
          exact RefV.nil rfl
        · refine RefC.seq ?_
          refine RefC.region ?_
          refine RefL.pure rfl rfl (RanP.fieldAddr fa_61_1 rfl) ?_
          refine RefL.li rfl rfl (Lt.ldI Tryz.isAgg3 rfl fun x23 => ?_)
          refine RefL.hv rfl rfl (Hv.call (frame_Control_ref K x23) Tryz.call142 rfl rfl rfl fun x24 => ?_)
          refine RefL.pure rfl rfl (RanP.assign rfl) ?_
          refine RefL.nil ?_
          refine RefE.next ?_
          refine RefC.cond rfl ?_ ?_
          · refine RefC.seq ?_
            refine RefC.region ?_
            refine RefL.pure rfl rfl (RanP.fieldAddr fa_61_1 rfl) ?_
            refine RefL.li rfl rfl (Lt.ldI Tryz.isAgg3 rfl fun x25 => ?_)
            refine RefL.pure rfl rfl (RanP.fieldAddr fa_61_4 rfl) ?_
            refine RefL.li rfl rfl (Lt.ldS Tryz.isAgg9 rfl fun x26 => ?_)
            refine RefL.pure rfl rfl (RanP.build rfl (v := .agg (Agg.cells (Tapi_Event.mk x25 (0 : Int) x26)).toArray) (fun _ => by kernel_rfl)) ?_
            refine RefL.hv rfl rfl (Hv.st Tryz.sizeOf52 rfl rfl rfl ?_)
            refine RefL.pure rfl rfl (RanP.assign rfl) ?_
            refine RefL.pure rfl rfl (RanP.assign rfl) ?_
            refine RefL.nil ?_
            refine RefE.next ?_
            refine RefC.ret ?_
            refine RefE.blockRet ?_
            refine RefE.thenRet ?_
            refine RefE.retV rfl ?_
            refine RefV.cellG Tryz.isAgg52 Tryz.sizeOf52 rfl fun r27 => ?_
            refine RefV.tmp rfl ?_
            refine RefV.tmp rfl ?_
            exact RefV.nil rfl
          · refine RefC.skip ?_
            refine RefE.blockNormal ?_
            refine RefE.next ?_
            refine RefC.seq ?_
            refine RefC.region ?_
            refine RefL.pure rfl rfl (RanP.move rfl) ?_
            refine RefL.li rfl rfl (Lt.ldG (τ := Tapi_Frame) Tryz.isAgg61 Tryz.sizeOf61 rfl fun x28 => ?_)
            refine RefL.hv rfl rfl (Hv.call (msg_Machine_data_ref K a0 x28) Tryz.call143 rfl rfl rfl fun x29 => ?_)
            refine RefL.pure rfl rfl (RanP.extract rfl rfl) ?_
            refine RefL.pure rfl rfl (RanP.extract rfl rfl) ?_
            refine RefL.pure rfl rfl (RanP.extract rfl rfl) ?_
            refine RefL.hv rfl rfl (Hv.st Tryz.sizeOf52 rfl rfl rfl ?_)
            refine RefL.pure rfl rfl (RanP.assign rfl) ?_
            refine RefL.pure rfl rfl (RanP.assign rfl) ?_
            refine RefL.nil ?_
            refine RefE.next ?_
            refine RefC.ret ?_
            refine RefE.retV rfl ?_
            refine RefV.cellG Tryz.isAgg52 Tryz.sizeOf52 rfl fun r30 => ?_
            refine RefV.tmp rfl ?_
            refine RefV.tmp rfl ?_
            exact RefV.nil rfl

def slices_Index_Errno_l0 (K : Nat) (a0 : Sl) (a1 : Int) (again : Int → G (Unit ⊕ Int)) (s10 : Int) : G (Unit ⊕ Int) :=
  if (decide (s10 < (a0.n : Int))) = true then
    ixA a0 s10 1 fun x11 =>
    ldI .i64 x11 fun x12 =>
    if (a1 == x12) = true then
      inr (ret s10)
    else
      again ((IntKind.wrap .i64 (s10 + (1 : Int))))
  else
    ret (.inl ())
def slices_Index_Errno (K : Nat) (a0 : Sl) (a1 : Int) : G (Int) :=
  bnd (
    loopG (slices_Index_Errno_l0 K a0 a1) K ((0 : Int))) (sumK fun (s13 : Unit) =>
  ret (-1 : Int))
set_option maxRecDepth 100000 in
theorem slices_Index_Errno_ref (K : Nat) (a0 : Sl) (a1 : Int) : Does Tryz.prog 182 [.slice a0.a a0.n a0.c, .int .i64 a1] (slices_Index_Errno K a0 a1) (fun r => .int .i64 r) := by
  refine Does.of Tryz.func182 rfl rfl rfl ?_
  unfold slices_Index_Errno
  refine RefC.seq ?_
  refine RefC.region ?_
  refine RefL.pure rfl rfl (RanP.assign rfl) ?_
  refine RefL.nil ?_
  refine RefE.next ?_
  refine RefC.seq ?_
  refine RefC.seq ?_
  refine RefC.region ?_
  refine RefL.pure rfl rfl (RanP.move rfl) ?_
  refine RefL.pure rfl rfl (RanP.lenSl rfl Tryz.underlying205 rfl) ?_
  refine RefL.pure rfl rfl (RanP.move rfl) ?_
  refine RefL.nil ?_
  refine RefE.next ?_
  refine RefC.cutSum (enc := fun (s13 : Unit) => ([] : Env)) (KThen.mono KRet.mono) ?_ ?_
  · refine RefC.block ?_
    refine RefC.loopW (enc := fun (s10 : Int) => ([(8, .int .i64 s10), (0, .slice a0.a a0.n a0.c), (1, .int .i64 a1), (7, .int .i64 (a0.n : Int))] : Env)) ⟨rfl, rfl, rfl, rfl, trivial⟩ ?_ _
    intro again k ih s10
    unfold slices_Index_Errno_l0
    refine RefC.seq ?_
    refine RefC.region ?_
    refine RefL.pure rfl rfl (RanP.lss rfl rfl) ?_
    refine RefL.nil ?_
    refine RefE.next ?_
    refine RefC.seq ?_
    refine RefC.cond rfl ?_ ?_
    · refine RefC.skip ?_
      refine RefE.next ?_
      refine RefC.seq ?_
      refine RefC.block ?_
      refine RefC.seq ?_
      refine RefC.region ?_
      refine RefL.pure rfl rfl (RanP.move rfl) ?_
      refine RefL.pure rfl rfl (RanP.assign rfl) ?_
      refine RefL.nil ?_
      refine RefE.next ?_
      refine RefC.seq ?_
      refine RefC.region ?_
      refine RefL.pure rfl rfl (RanP.move rfl) ?_
      refine RefL.pure rfl rfl (RanP.move rfl) ?_
      refine RefL.pure rfl rfl (RanP.move rfl) ?_
      refine RefL.li rfl rfl (Lt.ixA Tryz.underlying205 Tryz.sizeOf31 rfl rfl fun x11 => ?_)
      refine RefL.li rfl rfl (Lt.ldI Tryz.isAgg31 rfl fun x12 => ?_)
      refine RefL.pure rfl rfl (RanP.eql rfl rfl) ?_
      refine RefL.nil ?_
      refine RefE.next ?_
      refine RefC.cond rfl ?_ ?_
      · refine RefC.seq ?_
        refine RefC.region ?_
        refine RefL.pure rfl rfl (RanP.move rfl) ?_
        refine RefL.pure rfl rfl (RanP.assign rfl) ?_
        refine RefL.nil ?_
        refine RefE.next ?_
        refine RefC.ret ?_
        refine RefE.blockRet ?_
        refine RefE.thenRet ?_
        refine RefE.roundRet ?_
        refine RefE.blockRet ?_
        refine RefE.finR ?_
        refine RefE.thenRet ?_
        refine RefE.retV rfl ?_
        refine RefV.tmp rfl ?_
        exact RefV.nil rfl
      · refine RefC.skip ?_
        refine RefE.blockNormal ?_
        refine RefE.next ?_
        refine RefC.region ?_
        refine RefL.pure rfl rfl (RanP.add rfl rfl) ?_
        refine RefL.pure rfl rfl (RanP.move rfl) ?_
        refine RefL.nil ?_
        exact RefE.again (ih ((IntKind.wrap .i64 (s10 + (1 : Int))))) ⟨rfl, rfl, rfl, rfl, trivial⟩
    · refine RefC.exit ?_
      refine RefE.thenExit ?_
      refine RefE.roundExit ?_
      refine RefE.blockExit ?_
      exact RefE.finL (s := ()) trivial
  · intro s13
    refine RefE.next ?_
    refine RefC.seq ?_
    refine RefC.region ?_
    refine RefL.pure rfl rfl (RanP.assign rfl) ?_
    refine RefL.nil ?_
    refine RefE.next ?_
    refine RefC.ret ?_
    refine RefE.retV rfl ?_
    refine RefV.tmp rfl ?_
    exact RefV.nil rfl

def slices_Contains_Errno (K : Nat) (a0 : Sl) (a1 : Int) : G (Bool) :=
  bnd (slices_Index_Errno K a0 a1) fun x1 =>
  lt (decide ((0 : Int) ≤ x1)) fun x2 =>
  ret x2
set_option maxRecDepth 100000 in
theorem slices_Contains_Errno_ref (K : Nat) (a0 : Sl) (a1 : Int) : Does Tryz.prog 171 [.slice a0.a a0.n a0.c, .int .i64 a1] (slices_Contains_Errno K a0 a1) (fun r => .bool r) := by
  refine Does.of Tryz.func171 rfl rfl rfl ?_
  unfold slices_Contains_Errno
  refine RefC.seq ?_
  refine RefC.region ?_
  refine RefL.pure rfl rfl (RanP.assign rfl) ?_
  refine RefL.nil ?_
  refine RefE.next ?_
  refine RefC.seq ?_
  refine RefC.region ?_
  refine RefL.pure rfl rfl (RanP.move rfl) ?_
  refine RefL.pure rfl rfl (RanP.move rfl) ?_
  refine RefL.hv rfl rfl (Hv.call (slices_Index_Errno_ref K a0 a1) Tryz.call182 rfl rfl rfl fun x1 => ?_)
  refine RefL.pure rfl rfl (RanP.geq rfl rfl) ?_
  refine RefL.pure rfl rfl (RanP.assign rfl) ?_
  refine RefL.lt 4 (fun y => .bool y) rfl fun x2 => ?_
  refine RefL.nil ?_
  refine RefE.next ?_
  refine RefC.ret ?_
  refine RefE.retV rfl ?_
  refine RefV.tmp rfl ?_
  exact RefV.nil rfl

def close_one_api_Errno_ (K : Nat) (a0 : Int) (a1 : Sl) : G (Bool) :=
  bnd (slices_Contains_Errno K a1 a0) fun x1 =>
  ret x1
set_option maxRecDepth 100000 in
theorem close_one_api_Errno__ref (K : Nat) (a0 : Int) (a1 : Sl) : Does Tryz.prog 147 [.int .i64 a0, .slice a1.a a1.n a1.c] (close_one_api_Errno_ K a0 a1) (fun r => .bool r) := by
  refine Does.of Tryz.func147 rfl rfl rfl ?_
  unfold close_one_api_Errno_
  refine RefC.seq ?_
  refine RefC.region ?_
  refine RefL.pure rfl rfl (RanP.assign rfl) ?_
  refine RefL.nil ?_
  refine RefE.next ?_
  refine RefC.seq ?_
  refine RefC.region ?_
  refine RefL.pure rfl rfl (RanP.move rfl) ?_
  refine RefL.pure rfl rfl (RanP.move rfl) ?_
  refine RefL.hv rfl rfl (Hv.call (slices_Contains_Errno_ref K a1 a0) Tryz.call171 rfl rfl rfl fun x1 => ?_)
  refine RefL.pure rfl rfl (RanP.assign rfl) ?_
  refine RefL.nil ?_
  refine RefE.next ?_
  refine RefC.ret ?_
  refine RefE.retV rfl ?_
  refine RefV.tmp rfl ?_
  exact RefV.nil rfl

def close_Code_1 (K : Nat) (a0 : Sl) (a1 : Addr) : G (Bool) :=
  ldI .i64 a1 fun x1 =>
  bnd (close_one_api_Errno_ K x1 a0) fun x2 =>
  ret x2
set_option maxRecDepth 100000 in
theorem close_Code_1_ref (K : Nat) (a0 : Sl) (a1 : Addr) : Does Tryz.prog 146 [.slice a0.a a0.n a0.c, .pointer (some a1)] (close_Code_1 K a0 a1) (fun r => .bool r) := by
  refine Does.of Tryz.func146 rfl rfl rfl ?_
  unfold close_Code_1
  refine RefC.seq ?_
  refine RefC.region ?_
  refine RefL.pure rfl rfl (RanP.assign rfl) ?_
  refine RefL.nil ?_
  refine RefE.next ?_
  refine RefC.seq ?_
  refine RefC.region ?_
  refine RefL.li rfl rfl (Lt.ldI Tryz.isAgg31 rfl fun x1 => ?_)
  refine RefL.pure rfl rfl (RanP.move rfl) ?_
  refine RefL.hv rfl rfl (Hv.call (close_one_api_Errno__ref K x1 a0) Tryz.call147 rfl rfl rfl fun x2 => ?_)
  refine RefL.pure rfl rfl (RanP.assign rfl) ?_
  refine RefL.nil ?_
  refine RefE.next ?_
  refine RefC.ret ?_
  refine RefE.retV rfl ?_
  refine RefV.tmp rfl ?_
  exact RefV.nil rfl

def close_Code (K : Nat) (a0 : Int) : G (Int) :=
  new [.int .i64 a0] 31 fun x1 =>
  new [.int .i64 (0 : Int)] 31 fun x2 =>
  bnd (close_Code_1 K (Sl.mk (some x2) 1 1) x1) fun x3 =>
  if x3 = true then
    ret (1000 : Int)
  else
    new [.int .i64 (91 : Int), .int .i64 (100 : Int), .int .i64 (110 : Int), .int .i64 (120 : Int)] 31 fun x4 =>
    bnd (close_Code_1 K (Sl.mk (some x4) 4 4) x1) fun x5 =>
    if x5 = true then
      ret (1002 : Int)
    else
      new [.int .i64 (111 : Int), .int .i64 (122 : Int)] 31 fun x6 =>
      bnd (close_Code_1 K (Sl.mk (some x6) 2 2) x1) fun x7 =>
      if x7 = true then
        ret (1007 : Int)
      else
        new [.int .i64 (92 : Int), .int .i64 (121 : Int)] 31 fun x8 =>
        bnd (close_Code_1 K (Sl.mk (some x8) 2 2) x1) fun x9 =>
        if x9 = true then
          ret (1009 : Int)
        else
          ret (1011 : Int)
set_option maxRecDepth 100000 in
theorem close_Code_ref (K : Nat) (a0 : Int) : Does Tryz.prog 114 [.int .i64 a0] (close_Code K a0) (fun r => .int .i64 r) := by
  refine Does.of Tryz.func114 rfl rfl rfl ?_
  unfold close_Code
  refine RefC.seq ?_
  refine RefC.region ?_
  refine RefL.hv rfl rfl (Hv.box rfl rfl fun x1 => ?_)
  refine RefL.pure rfl rfl (RanP.assign rfl) ?_
  refine RefL.nil ?_
  refine RefE.next ?_
  refine RefC.seq ?_
  refine RefC.region ?_
  refine RefL.pure rfl rfl (RanP.makeFunc rfl rfl) ?_
  refine RefL.pure rfl rfl (RanP.assign rfl) ?_
  refine RefL.nil ?_
  refine RefE.next ?_
  refine RefC.seq ?_
  refine RefC.block ?_
  refine RefC.seq ?_
  refine RefC.region ?_
  refine RefL.pure rfl rfl (RanP.move rfl) ?_
  refine RefL.hv rfl rfl (Hv.buildSlice rfl (cs := [.int .i64 (0 : Int)]) (e := 31) (fun _ => by kernel_rfl) fun x2 => ?_)
  refine RefL.hv rfl rfl (Hv.call (close_Code_1_ref K (Sl.mk (some x2) 1 1) x1) Tryz.call146 rfl rfl rfl fun x3 => ?_)
  refine RefL.pure rfl rfl (RanP.assign rfl) ?_
  refine RefL.nil ?_
  refine RefE.next ?_
  refine RefC.cond rfl ?_ ?_
  · refine RefC.seq ?_
    refine RefC.region ?_
    refine RefL.pure rfl rfl (RanP.assign rfl) ?_
    refine RefL.nil ?_
    refine RefE.next ?_
    refine RefC.ret ?_
    refine RefE.blockRet ?_
    refine RefE.thenRet ?_
    refine RefE.retV rfl ?_
    refine RefV.tmp rfl ?_
    exact RefV.nil rfl
  · refine RefC.seq ?_
    refine RefC.region ?_
    refine RefL.pure rfl rfl (RanP.move rfl) ?_
    refine RefL.hv rfl rfl (Hv.buildSlice rfl (cs := [.int .i64 (91 : Int), .int .i64 (100 : Int), .int .i64 (110 : Int), .int .i64 (120 : Int)]) (e := 31) (fun _ => by kernel_rfl) fun x4 => ?_)
    refine RefL.hv rfl rfl (Hv.call (close_Code_1_ref K (Sl.mk (some x4) 4 4) x1) Tryz.call146 rfl rfl rfl fun x5 => ?_)
    refine RefL.pure rfl rfl (RanP.assign rfl) ?_
    refine RefL.nil ?_
    refine RefE.next ?_
    refine RefC.cond rfl ?_ ?_
    · refine RefC.seq ?_
      refine RefC.region ?_
      refine RefL.pure rfl rfl (RanP.assign rfl) ?_
      refine RefL.nil ?_
      refine RefE.next ?_
      refine RefC.ret ?_
      refine RefE.blockRet ?_
      refine RefE.thenRet ?_
      refine RefE.retV rfl ?_
      refine RefV.tmp rfl ?_
      exact RefV.nil rfl
    · refine RefC.seq ?_
      refine RefC.region ?_
      refine RefL.pure rfl rfl (RanP.move rfl) ?_
      refine RefL.hv rfl rfl (Hv.buildSlice rfl (cs := [.int .i64 (111 : Int), .int .i64 (122 : Int)]) (e := 31) (fun _ => by kernel_rfl) fun x6 => ?_)
      refine RefL.hv rfl rfl (Hv.call (close_Code_1_ref K (Sl.mk (some x6) 2 2) x1) Tryz.call146 rfl rfl rfl fun x7 => ?_)
      refine RefL.pure rfl rfl (RanP.assign rfl) ?_
      refine RefL.nil ?_
      refine RefE.next ?_
      refine RefC.cond rfl ?_ ?_
      · refine RefC.seq ?_
        refine RefC.region ?_
        refine RefL.pure rfl rfl (RanP.assign rfl) ?_
        refine RefL.nil ?_
        refine RefE.next ?_
        refine RefC.ret ?_
        refine RefE.blockRet ?_
        refine RefE.thenRet ?_
        refine RefE.retV rfl ?_
        refine RefV.tmp rfl ?_
        exact RefV.nil rfl
      · refine RefC.seq ?_
        refine RefC.region ?_
        refine RefL.pure rfl rfl (RanP.move rfl) ?_
        refine RefL.hv rfl rfl (Hv.buildSlice rfl (cs := [.int .i64 (92 : Int), .int .i64 (121 : Int)]) (e := 31) (fun _ => by kernel_rfl) fun x8 => ?_)
        refine RefL.hv rfl rfl (Hv.call (close_Code_1_ref K (Sl.mk (some x8) 2 2) x1) Tryz.call146 rfl rfl rfl fun x9 => ?_)
        refine RefL.pure rfl rfl (RanP.assign rfl) ?_
        refine RefL.nil ?_
        refine RefE.next ?_
        refine RefC.cond rfl ?_ ?_
        · refine RefC.seq ?_
          refine RefC.region ?_
          refine RefL.pure rfl rfl (RanP.assign rfl) ?_
          refine RefL.nil ?_
          refine RefE.next ?_
          refine RefC.ret ?_
          refine RefE.blockRet ?_
          refine RefE.thenRet ?_
          refine RefE.retV rfl ?_
          refine RefV.tmp rfl ?_
          exact RefV.nil rfl
        · refine RefC.skip ?_
          refine RefE.blockNormal ?_
          refine RefE.next ?_
          refine RefC.seq ?_
          refine RefC.region ?_
          refine RefL.pure rfl rfl (RanP.assign rfl) ?_
          refine RefL.nil ?_
          refine RefE.next ?_
          refine RefC.ret ?_
          refine RefE.retV rfl ?_
          refine RefV.tmp rfl ?_
          exact RefV.nil rfl

def close_Put (K : Nat) (a0 : Int) (a1 : ByteArray) : G (ByteArray × Int) :=
  lt (ByteArray.mk #[]) fun x1 =>
  bnd (
    if (a0 == (0 : Int)) = true then
      ret (sEq a1 (ByteArray.mk #[]))
    else
      ret false) fun (x2 : Bool) =>
  if x2 = true then
    lt (ByteArray.mk #[]) fun x3 =>
    ret (x3, (0 : Int))
  else
    bnd (close_Valid K a0) fun x4 =>
    bnd (
      if (!x4) = true then
        ret true
      else
        ret (decide ((123 : Int) < (a1.size : Int)))) fun (x5 : Bool) =>
    if x5 = true then
      lt (ByteArray.mk #[]) fun x6 =>
      ret (x6, (110 : Int))
    else
      bytesOf 5 a1 fun x7 =>
      bnd (utf_Valid K x7) fun x8 =>
      lt (!x8) fun x9 =>
      if x9 = true then
        lt (ByteArray.mk #[]) fun x10 =>
        ret (x10, (111 : Int))
      else
        new [.int .u8 (IntKind.wrap .u8 (shrI .i64 a0 (8 : Int))), .int .u8 (IntKind.wrap .u8 a0)] 5 fun x11 =>
        strOf (Sl.mk (some x11) 2 2) fun x12 =>
        chk (x12.size + a1.size ≤ 9223372036854775807) <|
        lt (x12 ++ a1) fun x14 =>
        ret (x14, (0 : Int))
set_option maxRecDepth 100000 in
theorem close_Put_ref (K : Nat) (a0 : Int) (a1 : ByteArray) : Does Tryz.prog 76 [.int .i64 a0, .string a1] (close_Put K a0 a1) (fun r => .tuple #[.string r.1, .int .i64 r.2]) := by
  refine Does.of Tryz.func76 rfl rfl rfl ?_
  unfold close_Put
  refine RefC.seq ?_
  refine RefC.region ?_
  refine RefL.pure rfl rfl (RanP.assign rfl) ?_
  refine RefL.lt 4 (fun y => .string y) rfl fun x1 => ?_
  refine RefL.pure rfl rfl (RanP.assign rfl) ?_
  refine RefL.nil ?_
  refine RefE.next ?_
  refine RefC.seq ?_
  refine RefC.block ?_
  refine RefC.seq ?_
  refine RefC.region ?_
  refine RefL.pure rfl rfl (RanP.move rfl) ?_
  refine RefL.pure rfl rfl (RanP.eql rfl rfl) ?_
  refine RefL.pure rfl rfl (RanP.move rfl) ?_
  refine RefL.cut (enc := fun (x2 : Bool) => ([(12, .bool x2), (0, .int .i64 a0), (1, .string a1)] : Env)) 3 ?_ ?_
  · refine RefL.ite (s := 9) rfl ?_ ?_
    · refine RefL.pure rfl rfl (RanP.move rfl) ?_
      refine RefL.pure rfl rfl (RanP.eqlS rfl rfl) ?_
      refine RefL.pure rfl rfl (RanP.pickT rfl rfl) ?_
      refine RefL.nil ?_
      exact RefE.fin (s := (sEq a1 (ByteArray.mk #[]))) ⟨rfl, rfl, rfl, trivial⟩
    · refine RefL.skip rfl rfl ?_
      refine RefL.skip rfl rfl ?_
      refine RefL.pure rfl rfl (RanP.pickF rfl rfl) ?_
      refine RefL.nil ?_
      exact RefE.fin (s := false) ⟨rfl, rfl, rfl, trivial⟩
  · intro x2
    refine RefL.pure rfl rfl (RanP.assign rfl) ?_
    refine RefL.nil ?_
    refine RefE.next ?_
    refine RefC.cond rfl ?_ ?_
    · refine RefC.seq ?_
      refine RefC.region ?_
      refine RefL.pure rfl rfl (RanP.assign rfl) ?_
      refine RefL.lt 4 (fun y => .string y) rfl fun x3 => ?_
      refine RefL.pure rfl rfl (RanP.assign rfl) ?_
      refine RefL.nil ?_
      refine RefE.next ?_
      refine RefC.ret ?_
      refine RefE.blockRet ?_
      refine RefE.thenRet ?_
      refine RefE.retV rfl ?_
      refine RefV.tmp rfl ?_
      refine RefV.tmp rfl ?_
      exact RefV.nil rfl
    · refine RefC.seq ?_
      refine RefC.region ?_
      refine RefL.pure rfl rfl (RanP.move rfl) ?_
      refine RefL.hv rfl rfl (Hv.call (close_Valid_ref K a0) Tryz.call119 rfl rfl rfl fun x4 => ?_)
      refine RefL.pure rfl rfl (RanP.not rfl) ?_
      refine RefL.pure rfl rfl (RanP.move rfl) ?_
      refine RefL.cut (enc := fun (x5 : Bool) => ([(21, .bool x5), (0, .int .i64 a0), (1, .string a1)] : Env)) 4 ?_ ?_
      · refine RefL.ite (s := 17) rfl ?_ ?_
        · refine RefL.skip rfl rfl ?_
          refine RefL.skip rfl rfl ?_
          refine RefL.skip rfl rfl ?_
          refine RefL.pure rfl rfl (RanP.pickT rfl rfl) ?_
          refine RefL.nil ?_
          exact RefE.fin (s := true) ⟨rfl, rfl, rfl, trivial⟩
        · refine RefL.pure rfl rfl (RanP.move rfl) ?_
          refine RefL.pure rfl rfl (RanP.lenS rfl Tryz.underlying9 rfl) ?_
          refine RefL.pure rfl rfl (RanP.gtr rfl rfl) ?_
          refine RefL.pure rfl rfl (RanP.pickF rfl rfl) ?_
          refine RefL.nil ?_
          exact RefE.fin (s := (decide ((123 : Int) < (a1.size : Int)))) ⟨rfl, rfl, rfl, trivial⟩
      · intro x5
        refine RefL.pure rfl rfl (RanP.assign rfl) ?_
        refine RefL.nil ?_
        refine RefE.next ?_
        refine RefC.cond rfl ?_ ?_
        · refine RefC.seq ?_
          refine RefC.region ?_
          refine RefL.pure rfl rfl (RanP.assign rfl) ?_
          refine RefL.lt 4 (fun y => .string y) rfl fun x6 => ?_
          refine RefL.pure rfl rfl (RanP.assign rfl) ?_
          refine RefL.nil ?_
          refine RefE.next ?_
          refine RefC.ret ?_
          refine RefE.blockRet ?_
          refine RefE.thenRet ?_
          refine RefE.retV rfl ?_
          refine RefV.tmp rfl ?_
          refine RefV.tmp rfl ?_
          exact RefV.nil rfl
        · refine RefC.seq ?_
          refine RefC.region ?_
          refine RefL.pure rfl rfl (RanP.move rfl) ?_
          refine RefL.hv rfl rfl (Hv.bytesOf Tryz.underlying9 Tryz.underlying49 Tryz.underlying5 rfl fun x7 => ?_)
          refine RefL.hv rfl rfl (Hv.call (utf_Valid_ref K x7) Tryz.call120 rfl rfl rfl fun x8 => ?_)
          refine RefL.pure rfl rfl (RanP.not rfl) ?_
          refine RefL.pure rfl rfl (RanP.assign rfl) ?_
          refine RefL.lt 22 (fun y => .bool y) rfl fun x9 => ?_
          refine RefL.nil ?_
          refine RefE.next ?_
          refine RefC.cond rfl ?_ ?_
          · refine RefC.seq ?_
            refine RefC.region ?_
            refine RefL.pure rfl rfl (RanP.assign rfl) ?_
            refine RefL.lt 4 (fun y => .string y) rfl fun x10 => ?_
            refine RefL.pure rfl rfl (RanP.assign rfl) ?_
            refine RefL.nil ?_
            refine RefE.next ?_
            refine RefC.ret ?_
            refine RefE.blockRet ?_
            refine RefE.thenRet ?_
            refine RefE.retV rfl ?_
            refine RefV.tmp rfl ?_
            refine RefV.tmp rfl ?_
            exact RefV.nil rfl
          · refine RefC.skip ?_
            refine RefE.blockNormal ?_
            refine RefE.next ?_
            refine RefC.seq ?_
            refine RefC.region ?_
            refine RefL.pure rfl rfl (RanP.move rfl) ?_
            refine RefL.pure rfl rfl (RanP.shr (by decide) rfl rfl) ?_
            refine RefL.pure rfl rfl (RanP.conv Tryz.underlying3 Tryz.underlying5 rfl) ?_
            refine RefL.pure rfl rfl (RanP.move rfl) ?_
            refine RefL.pure rfl rfl (RanP.conv Tryz.underlying3 Tryz.underlying5 rfl) ?_
            refine RefL.hv rfl rfl (Hv.buildSlice rfl (cs := [.int .u8 (IntKind.wrap .u8 (shrI .i64 a0 (8 : Int))), .int .u8 (IntKind.wrap .u8 a0)]) (e := 5) (fun _ => by kernel_rfl) fun x11 => ?_)
            refine RefL.li rfl rfl (Lt.strOf Tryz.underlying49 Tryz.underlying9 Tryz.underlying5 rfl fun x12 => ?_)
            refine RefL.pure rfl rfl (RanP.move rfl) ?_
            refine RefL.chk fun h13 => ?_
            refine RefL.pure rfl rfl (RanP.addS h13 rfl rfl) ?_
            refine RefL.pure rfl rfl (RanP.assign rfl) ?_
            refine RefL.lt 4 (fun y => .string y) rfl fun x14 => ?_
            refine RefL.pure rfl rfl (RanP.assign rfl) ?_
            refine RefL.nil ?_
            refine RefE.next ?_
            refine RefC.ret ?_
            refine RefE.retV rfl ?_
            refine RefV.tmp rfl ?_
            refine RefV.tmp rfl ?_
            exact RefV.nil rfl

def ring_Ring_Room (K : Nat) (a0 : Option Addr) : G (Int) :=
  drw <|
  nn a0 fun x1 =>
  ldSl (x1.add 0) fun x2 =>
  nn a0 fun x3 =>
  ldI .i64 (x3.add 2) fun x4 =>
  lt (IntKind.wrap .i64 ((x2.n : Int) - x4)) fun x5 =>
  ret x5
set_option maxRecDepth 100000 in
theorem ring_Ring_Room_ref (K : Nat) (a0 : Option Addr) : Does Tryz.prog 172 [.pointer a0] (ring_Ring_Room K a0) (fun r => .int .i64 r) := by
  refine Does.of Tryz.func172 rfl rfl rfl ?_
  unfold ring_Ring_Room
  refine RefC.seq ?_
  refine RefC.region ?_
  refine RefL.pure rfl rfl (RanP.assign rfl) ?_
  refine RefL.nil ?_
  refine RefE.next ?_
  refine RefC.seq ?_
  refine RefC.draw mixed [0, 1, 3, 7, 15, 0, 32, 96, 224, 511, 1023] [.lp 0, .lp 1, .lp 2, .li 3, .lp 4, .lp 5, .lp 6, .lp 7, .li 8, .lp 9, .lp 10] (by kernel_rfl) ?_
  refine RefD.pure (at_ rfl) rfl (RanP.move rfl) ?_
  refine RefD.any (at_ rfl) rfl (Lt.nn rfl fun x1 => ?_)
  refine RefD.pure (at_ rfl) rfl (RanP.fieldAddr fa_165_0 rfl) ?_
  refine RefD.li0 (at_ rfl) rfl (Lt.ldSl Tryz.isAgg49 rfl fun x2 => ?_)
  refine RefD.pure (at_ rfl) rfl (RanP.lenSl rfl Tryz.underlying49 rfl) ?_
  refine RefD.pure (at_ rfl) rfl (RanP.move rfl) ?_
  refine RefD.any (at_ rfl) rfl (Lt.nn rfl fun x3 => ?_)
  refine RefD.pure (at_ rfl) rfl (RanP.fieldAddr fa_165_2 rfl) ?_
  refine RefD.li0 (at_ rfl) rfl (Lt.ldI Tryz.isAgg3 rfl fun x4 => ?_)
  refine RefD.pure (at_ rfl) rfl (RanP.sub rfl rfl) ?_
  refine RefD.pure (at_ rfl) rfl (RanP.assign rfl) ?_
  refine RefD.lt 2 (fun y => .int .i64 y) rfl fun x5 => ?_
  refine RefD.nil ?_
  refine RefE.next ?_
  refine RefC.ret ?_
  refine RefE.retV rfl ?_
  refine RefV.tmp rfl ?_
  exact RefV.nil rfl

def ring_Ring_Put (K : Nat) (a0 : Option Addr) (a1 : Sl) : G (Int) :=
  bnd (ring_Ring_Room K a0) fun x1 =>
  slS a1 none (some (if x1 < (a1.n : Int) then x1 else (a1.n : Int))) (some (a1.n : Int)) 1 fun x2 =>
  drw <|
  nn a0 fun x3 =>
  ldI .i64 (x3.add 1) fun x4 =>
  nn a0 fun x5 =>
  ldI .i64 (x5.add 2) fun x6 =>
  nn a0 fun x7 =>
  ldSl (x7.add 0) fun x8 =>
  chk ((x8.n : Int) ≠ 0) <|
  lt (Int.tmod (IntKind.wrap .i64 (x4 + x6)) (x8.n : Int)) fun x10 =>
  nn a0 fun x11 =>
  ldSl (x11.add 0) fun x12 =>
  slS x12 (some x10) none none 1 fun x13 =>
  cpy 1 x13 x2 fun x14 =>
  drw <|
  nn a0 fun x15 =>
  ldSl (x15.add 0) fun x16 =>
  slS x2 (some x14) none none 1 fun x17 =>
  cpy 1 x16 x17 fun x18 =>
  nn a0 fun x19 =>
  ldI .i64 (x19.add 2) fun x20 =>
  nn a0 fun x21 =>
  st (x21.add 2) (.int .i64 (IntKind.wrap .i64 (x20 + (x2.n : Int)))) <|
  lt (x2.n : Int) fun x22 =>
  ret x22
set_option maxRecDepth 100000 in
theorem ring_Ring_Put_ref (K : Nat) (a0 : Option Addr) (a1 : Sl) : Does Tryz.prog 148 [.pointer a0, .slice a1.a a1.n a1.c] (ring_Ring_Put K a0 a1) (fun r => .int .i64 r) := by
  refine Does.of Tryz.func148 rfl rfl rfl ?_
  unfold ring_Ring_Put
  refine RefC.seq ?_
  refine RefC.region ?_
  refine RefL.pure rfl rfl (RanP.assign rfl) ?_
  refine RefL.nil ?_
  refine RefE.next ?_
  refine RefC.seq ?_
  refine RefC.region ?_
  refine RefL.pure rfl rfl (RanP.move rfl) ?_
  refine RefL.pure rfl rfl (RanP.move rfl) ?_
  refine RefL.pure rfl rfl (RanP.lenSl rfl Tryz.underlying49 rfl) ?_
  refine RefL.pure rfl rfl (RanP.move rfl) ?_
  refine RefL.hv rfl rfl (Hv.call (ring_Ring_Room_ref K a0) Tryz.call172 rfl rfl rfl fun x1 => ?_)
  refine RefL.pure rfl rfl (RanP.min2 rfl) ?_
  refine RefL.pure rfl rfl (RanP.move rfl) ?_
  refine RefL.pure rfl rfl (RanP.lenSl rfl Tryz.underlying49 rfl) ?_
  refine RefL.li rfl rfl (Lt.slS (kl := .i64) (kh := .i64) (km := .i64) Tryz.underlying49 Tryz.sizeOf5 rfl rfl rfl rfl (by simp) fun x2 => ?_)
  refine RefL.pure rfl rfl (RanP.assign rfl) ?_
  refine RefL.nil ?_
  refine RefE.next ?_
  refine RefC.seq ?_
  refine RefC.draw mixed [0, 1, 3, 7, 0, 16, 48, 112, 255, 0, 512, 1536, 3584, 7680, 16383, 32767] [.lp 0, .lp 1, .lp 2, .li 3, .lp 4, .lp 5, .lp 6, .li 7, .lp 8, .lp 9, .lp 10, .lp 11, .li 12, .lp 13, .lp 14, .lp 15] (by kernel_rfl) ?_
  refine RefD.pure (at_ rfl) rfl (RanP.move rfl) ?_
  refine RefD.any (at_ rfl) rfl (Lt.nn rfl fun x3 => ?_)
  refine RefD.pure (at_ rfl) rfl (RanP.fieldAddr fa_165_1 rfl) ?_
  refine RefD.li0 (at_ rfl) rfl (Lt.ldI Tryz.isAgg3 rfl fun x4 => ?_)
  refine RefD.pure (at_ rfl) rfl (RanP.move rfl) ?_
  refine RefD.any (at_ rfl) rfl (Lt.nn rfl fun x5 => ?_)
  refine RefD.pure (at_ rfl) rfl (RanP.fieldAddr fa_165_2 rfl) ?_
  refine RefD.li0 (at_ rfl) rfl (Lt.ldI Tryz.isAgg3 rfl fun x6 => ?_)
  refine RefD.pure (at_ rfl) rfl (RanP.add rfl rfl) ?_
  refine RefD.pure (at_ rfl) rfl (RanP.move rfl) ?_
  refine RefD.any (at_ rfl) rfl (Lt.nn rfl fun x7 => ?_)
  refine RefD.pure (at_ rfl) rfl (RanP.fieldAddr fa_165_0 rfl) ?_
  refine RefD.li0 (at_ rfl) rfl (Lt.ldSl Tryz.isAgg49 rfl fun x8 => ?_)
  refine RefD.pure (at_ rfl) rfl (RanP.lenSl rfl Tryz.underlying49 rfl) ?_
  refine RefD.chk fun h9 => ?_
  refine RefD.pure (at_ rfl) rfl (RanP.rem h9 rfl rfl) ?_
  refine RefD.pure (at_ rfl) rfl (RanP.assign rfl) ?_
  refine RefD.lt 5 (fun y => .int .i64 y) rfl fun x10 => ?_
  refine RefD.nil ?_
  refine RefE.next ?_
  refine RefC.seq ?_
  refine RefC.region ?_
  refine RefL.pure rfl rfl (RanP.move rfl) ?_
  refine RefL.li rfl rfl (Lt.nn rfl fun x11 => ?_)
  refine RefL.pure rfl rfl (RanP.fieldAddr fa_165_0 rfl) ?_
  refine RefL.li rfl rfl (Lt.ldSl Tryz.isAgg49 rfl fun x12 => ?_)
  refine RefL.pure rfl rfl (RanP.move rfl) ?_
  refine RefL.li rfl rfl (Lt.slS (kl := .i64) (kh := .i64) (km := .i64) Tryz.underlying49 Tryz.sizeOf5 rfl rfl rfl rfl (by simp) fun x13 => ?_)
  refine RefL.pure rfl rfl (RanP.move rfl) ?_
  refine RefL.hv rfl rfl (Hv.cpy rfl Tryz.underlying49 Tryz.sizeOf5 rfl fun x14 => ?_)
  refine RefL.pure rfl rfl (RanP.assign rfl) ?_
  refine RefL.nil ?_
  refine RefE.next ?_
  refine RefC.seq ?_
  refine RefC.draw mixed [0, 1, 3, 7, 0, 0, 48, 127] [.lp 0, .lp 1, .lp 2, .li 3, .lp 4, .lp 5, .lp 6, .hv 7] (by kernel_rfl) ?_
  refine RefD.pure (at_ rfl) rfl (RanP.move rfl) ?_
  refine RefD.any (at_ rfl) rfl (Lt.nn rfl fun x15 => ?_)
  refine RefD.pure (at_ rfl) rfl (RanP.fieldAddr fa_165_0 rfl) ?_
  refine RefD.li0 (at_ rfl) rfl (Lt.ldSl Tryz.isAgg49 rfl fun x16 => ?_)
  refine RefD.pure (at_ rfl) rfl (RanP.move rfl) ?_
  refine RefD.pure (at_ rfl) rfl (RanP.move rfl) ?_
  refine RefD.any (at_ rfl) rfl (Lt.slS (kl := .i64) (kh := .i64) (km := .i64) Tryz.underlying49 Tryz.sizeOf5 rfl rfl rfl rfl (by simp) fun x17 => ?_)
  refine RefD.hv (at_ rfl) rfl (Hv.cpy rfl Tryz.underlying49 Tryz.sizeOf5 rfl fun x18 => ?_)
  refine RefD.nil ?_
  refine RefE.next ?_
  refine RefC.seq ?_
  refine RefC.region ?_
  refine RefL.pure rfl rfl (RanP.move rfl) ?_
  refine RefL.li rfl rfl (Lt.nn rfl fun x19 => ?_)
  refine RefL.pure rfl rfl (RanP.fieldAddr fa_165_2 rfl) ?_
  refine RefL.li rfl rfl (Lt.ldI Tryz.isAgg3 rfl fun x20 => ?_)
  refine RefL.pure rfl rfl (RanP.move rfl) ?_
  refine RefL.pure rfl rfl (RanP.lenSl rfl Tryz.underlying49 rfl) ?_
  refine RefL.pure rfl rfl (RanP.add rfl rfl) ?_
  refine RefL.li rfl rfl (Lt.nn rfl fun x21 => ?_)
  refine RefL.pure rfl rfl (RanP.fieldAddr fa_165_2 rfl) ?_
  refine RefL.hv rfl rfl (Hv.st Tryz.sizeOf3 rfl rfl rfl ?_)
  refine RefL.nil ?_
  refine RefE.next ?_
  refine RefC.seq ?_
  refine RefC.region ?_
  refine RefL.pure rfl rfl (RanP.move rfl) ?_
  refine RefL.pure rfl rfl (RanP.lenSl rfl Tryz.underlying49 rfl) ?_
  refine RefL.pure rfl rfl (RanP.assign rfl) ?_
  refine RefL.lt 4 (fun y => .int .i64 y) rfl fun x22 => ?_
  refine RefL.nil ?_
  refine RefE.next ?_
  refine RefC.ret ?_
  refine RefE.retV rfl ?_
  refine RefV.tmp rfl ?_
  exact RefV.nil rfl

end Go.Proofs.YtjdnjlnfcbaokaaGreat

/-
  Go functions as programs over the world, and that the model's code does what they say. Printed by gen.py (own work).
-/
import Derived.Test.YtjdnjlnfcbaokaaGreatTy
set_option linter.unusedVariables false
set_option linter.unusedSimpArgs false
namespace Go.Proofs.YtjdnjlnfcbaokaaGreat
open Go Go.Lg

def law16_Config (K : Nat) (a0 : Int) (a1 : Int) (a2 : Int) : G (Tapi_Config) :=
  new [.slice Sl.nil.a Sl.nil.n Sl.nil.c, .slice Sl.nil.a Sl.nil.n Sl.nil.c, .int .i64 (0 : Int), .int .i64 (0 : Int), .int .i64 (0 : Int), .int .i64 (0 : Int), .int .i64 (0 : Int), .int .i64 (0 : Int), .int .i64 (0 : Int), .int .i64 (0 : Int), .int .i64 (0 : Int), .int .i64 (0 : Int)] 25 fun x1 =>
  new (Agg.cells (Tapi_Route.mk (ByteArray.mk #[47]) (ByteArray.mk #[]) (ByteArray.mk #[120]))) 100 fun x2 =>
  st x1 (.agg (Agg.cells (Tapi_Config.mk (Sl.mk (some x2) 1 1) Sl.nil (4 : Int) (IntKind.wrap .i64 ((1 : Int) + (IntKind.wrap .i64 a0))) (IntKind.wrap .i64 ((1 : Int) + (IntKind.wrap .i64 a1))) (3 : Int) (300 : Int) (IntKind.wrap .i64 ((1 : Int) + (IntKind.wrap .i64 a2))) (5 : Int) (9 : Int) (3 : Int) (4 : Int))).toArray) <|
  ldG (α := Tapi_Config) x1 fun r3 =>
  ret r3
set_option maxRecDepth 100000 in
theorem law16_Config_ref (K : Nat) (a0 : Int) (a1 : Int) (a2 : Int) : Does Tryz.prog 23 [.int .u8 a0, .int .u8 a1, .int .u8 a2] (law16_Config K a0 a1 a2) (fun r => .agg (Agg.cells r).toArray) := by
  refine Does.of Tryz.func23 rfl rfl rfl ?_
  unfold law16_Config
  refine RefC.seq ?_
  refine RefC.region ?_
  refine RefL.hv rfl rfl (Hv.newZ Tryz.zeroValue25 rfl fun x1 => ?_)
  refine RefL.nil ?_
  refine RefE.next ?_
  refine RefC.seq ?_
  refine RefC.region ?_
  refine RefL.pure rfl rfl (RanP.build rfl (v := .agg (Agg.cells (Tapi_Route.mk (ByteArray.mk #[47]) (ByteArray.mk #[]) (ByteArray.mk #[120]))).toArray) (fun _ => by kernel_rfl)) ?_
  refine RefL.hv rfl rfl (Hv.buildSlice rfl (cs := (Agg.cells (Tapi_Route.mk (ByteArray.mk #[47]) (ByteArray.mk #[]) (ByteArray.mk #[120])))) (e := 100) (fun _ => by kernel_rfl) fun x2 => ?_)
  refine RefL.pure rfl rfl (RanP.move rfl) ?_
  refine RefL.pure rfl rfl (RanP.conv Tryz.underlying5 Tryz.underlying3 rfl) ?_
  refine RefL.pure rfl rfl (RanP.add rfl rfl) ?_
  refine RefL.pure rfl rfl (RanP.move rfl) ?_
  refine RefL.pure rfl rfl (RanP.conv Tryz.underlying5 Tryz.underlying3 rfl) ?_
  refine RefL.pure rfl rfl (RanP.add rfl rfl) ?_
  refine RefL.pure rfl rfl (RanP.move rfl) ?_
  refine RefL.pure rfl rfl (RanP.conv Tryz.underlying5 Tryz.underlying3 rfl) ?_
  refine RefL.pure rfl rfl (RanP.add rfl rfl) ?_
  refine RefL.pure rfl rfl (RanP.build rfl (v := .agg (Agg.cells (Tapi_Config.mk (Sl.mk (some x2) 1 1) Sl.nil (4 : Int) (IntKind.wrap .i64 ((1 : Int) + (IntKind.wrap .i64 a0))) (IntKind.wrap .i64 ((1 : Int) + (IntKind.wrap .i64 a1))) (3 : Int) (300 : Int) (IntKind.wrap .i64 ((1 : Int) + (IntKind.wrap .i64 a2))) (5 : Int) (9 : Int) (3 : Int) (4 : Int))).toArray) (fun _ => by kernel_rfl)) ?_
  refine RefL.hv rfl rfl (Hv.st Tryz.sizeOf25 rfl rfl rfl ?_)
  refine RefL.nil ?_
  refine RefE.next ?_
  refine RefC.ret ?_
  refine RefE.retV rfl ?_
  refine RefV.cellG Tryz.isAgg25 Tryz.sizeOf25 rfl fun r3 => ?_
  exact RefV.nil rfl

def law17_Config (K : Nat) (a0 : A5u8) : G (Tapi_Config) :=
  new (Agg.cells a0) 65 fun x1 =>
  new [.slice Sl.nil.a Sl.nil.n Sl.nil.c, .slice Sl.nil.a Sl.nil.n Sl.nil.c, .int .i64 (0 : Int), .int .i64 (0 : Int), .int .i64 (0 : Int), .int .i64 (0 : Int), .int .i64 (0 : Int), .int .i64 (0 : Int), .int .i64 (0 : Int), .int .i64 (0 : Int), .int .i64 (0 : Int), .int .i64 (0 : Int)] 25 fun x2 =>
  ldI .u8 (x1.add ((0 : Int).toNat * 1)) fun x3 =>
  ldI .u8 (x1.add ((1 : Int).toNat * 1)) fun x4 =>
  ldI .u8 (x1.add ((2 : Int).toNat * 1)) fun x5 =>
  bnd (law16_Config K x3 x4 x5) fun x6 =>
  new [.slice Sl.nil.a Sl.nil.n Sl.nil.c, .slice Sl.nil.a Sl.nil.n Sl.nil.c, .int .i64 (0 : Int), .int .i64 (0 : Int), .int .i64 (0 : Int), .int .i64 (0 : Int), .int .i64 (0 : Int), .int .i64 (0 : Int), .int .i64 (0 : Int), .int .i64 (0 : Int), .int .i64 (0 : Int), .int .i64 (0 : Int)] 25 fun x7 =>
  st x7 (.agg (Agg.cells x6).toArray) <|
  drw <|
  ldI .u8 (x1.add ((3 : Int).toNat * 1)) fun x8 =>
  ldI .i64 (x7.add 3) fun x9 =>
  wld fun w11 =>
  ldI .u8 (x1.add ((4 : Int).toNat * 1)) fun x10 =>
  st (x7.add 5) (.int .i64 (IntKind.wrap .i64 ((1 : Int) + (Int.tmod (IntKind.wrap .i64 x8) (8 : Int))))) <|
  agr (like (x1.add ((4 : Int).toNat * 1)) 1 w11) <|
  st (x7.add 6) (.int .i64 (IntKind.wrap .i64 (x9 + (IntKind.wrap .i64 x10)))) <|
  ldG (α := Tapi_Config) x7 fun x12 =>
  st x2 (.agg (Agg.cells x12).toArray) <|
  ldG (α := Tapi_Config) x2 fun r13 =>
  ret r13
set_option maxRecDepth 100000 in
theorem law17_Config_ref (K : Nat) (a0 : A5u8) : Does Tryz.prog 36 [.agg (Agg.cells a0).toArray] (law17_Config K a0) (fun r => .agg (Agg.cells r).toArray) := by
  refine Does.of Tryz.func36 rfl rfl rfl ?_
  unfold law17_Config
  refine RefC.seq ?_
  refine RefC.region ?_
  refine RefL.hv rfl rfl (Hv.box rfl rfl fun x1 => ?_)
  refine RefL.hv rfl rfl (Hv.newZ Tryz.zeroValue25 rfl fun x2 => ?_)
  refine RefL.nil ?_
  refine RefE.next ?_
  refine RefC.seq ?_
  refine RefC.region ?_
  refine RefL.pure rfl rfl (RanP.ixArr (len := 5) (by decide) Tryz.underlying65 Tryz.sizeOf5 rfl rfl) ?_
  refine RefL.li rfl rfl (Lt.ldI Tryz.isAgg5 rfl fun x3 => ?_)
  refine RefL.pure rfl rfl (RanP.ixArr (len := 5) (by decide) Tryz.underlying65 Tryz.sizeOf5 rfl rfl) ?_
  refine RefL.li rfl rfl (Lt.ldI Tryz.isAgg5 rfl fun x4 => ?_)
  refine RefL.pure rfl rfl (RanP.ixArr (len := 5) (by decide) Tryz.underlying65 Tryz.sizeOf5 rfl rfl) ?_
  refine RefL.li rfl rfl (Lt.ldI Tryz.isAgg5 rfl fun x5 => ?_)
  refine RefL.hv rfl rfl (Hv.call (law16_Config_ref K x3 x4 x5) Tryz.call23 rfl rfl rfl fun x6 => ?_)
  refine RefL.hv rfl rfl (Hv.newZ Tryz.zeroValue25 rfl fun x7 => ?_)
  refine RefL.hv rfl rfl (Hv.st Tryz.sizeOf25 rfl rfl rfl ?_)
  refine RefL.nil ?_
  refine RefE.next ?_
  refine RefC.seq ?_
  refine RefC.draw mixed [0, 1, 3, 7, 15, 0, 32, 0, 128, 384, 992, 127, 2175, 8191, 16383] [.lp 0, .li 1, .lp 2, .lp 3, .lp 4, .lp 5, .li 6, .lp 7, .li 8, .lp 9, .lp 10, .lp 11, .hv 12, .re 8, .lp 13, .hv 14] (by kernel_rfl) ?_
  refine RefD.pure (at_ rfl) rfl (RanP.ixArr (len := 5) (by decide) Tryz.underlying65 Tryz.sizeOf5 rfl rfl) ?_
  refine RefD.li0 (at_ rfl) rfl (Lt.ldI Tryz.isAgg5 rfl fun x8 => ?_)
  refine RefD.pure (at_ rfl) rfl (RanP.conv Tryz.underlying5 Tryz.underlying3 rfl) ?_
  refine RefD.pure (at_ rfl) rfl (RanP.rem (by decide) rfl rfl) ?_
  refine RefD.pure (at_ rfl) rfl (RanP.add rfl rfl) ?_
  refine RefD.pure (at_ rfl) rfl (RanP.fieldAddr fa_25_3 rfl) ?_
  refine RefD.li0 (at_ rfl) rfl (Lt.ldI Tryz.isAgg3 rfl fun x9 => ?_)
  refine RefD.pure (at_ rfl) rfl (RanP.ixArr (len := 5) (by decide) Tryz.underlying65 Tryz.sizeOf5 rfl rfl) ?_
  refine RefD.li (at_ rfl) rfl fun w11 => (Lt.ldI Tryz.isAgg5 rfl fun x10 => ?_)
  refine RefD.pure (at_ rfl) rfl (RanP.conv Tryz.underlying5 Tryz.underlying3 rfl) ?_
  refine RefD.pure (at_ rfl) rfl (RanP.add rfl rfl) ?_
  refine RefD.pure (at_ rfl) rfl (RanP.fieldAddr fa_25_5 rfl) ?_
  refine RefD.hv (at_ rfl) rfl (Hv.st Tryz.sizeOf3 rfl rfl rfl ?_)
  refine RefD.re rfl ?_
  refine RefD.pure (at_ rfl) rfl (RanP.fieldAddr fa_25_6 rfl) ?_
  refine RefD.hv (at_ rfl) rfl (Hv.st Tryz.sizeOf3 rfl rfl rfl ?_)
  refine RefD.nil ?_
  refine RefE.next ?_
  refine RefC.seq ?_
  refine RefC.region ?_
  refine RefL.li rfl rfl (Lt.ldG (τ := Tapi_Config) Tryz.isAgg25 Tryz.sizeOf25 rfl fun x12 => ?_)
  refine RefL.hv rfl rfl (Hv.st Tryz.sizeOf25 rfl rfl rfl ?_)
  refine RefL.nil ?_
  refine RefE.next ?_
  refine RefC.ret ?_
  refine RefE.retV rfl ?_
  refine RefV.cellG Tryz.isAgg25 Tryz.sizeOf25 rfl fun r13 => ?_
  exact RefV.nil rfl

def route_Check_1 (K : Nat) (a0 : Int) (a1 : Int) (a2 : Int) : G (Bool) :=
  bnd (
    if (decide (a1 ≤ a0)) = true then
      ret (decide (a0 ≤ a2))
    else
      ret false) fun (x1 : Bool) =>
  ret x1
set_option maxRecDepth 100000 in
theorem route_Check_1_ref (K : Nat) (a0 : Int) (a1 : Int) (a2 : Int) : Does Tryz.prog 97 [.int .i64 a0, .int .i64 a1, .int .i64 a2] (route_Check_1 K a0 a1 a2) (fun r => .bool r) := by
  refine Does.of Tryz.func97 rfl rfl rfl ?_
  unfold route_Check_1
  refine RefC.seq ?_
  refine RefC.region ?_
  refine RefL.pure rfl rfl (RanP.assign rfl) ?_
  refine RefL.nil ?_
  refine RefE.next ?_
  refine RefC.seq ?_
  refine RefC.region ?_
  refine RefL.pure rfl rfl (RanP.move rfl) ?_
  refine RefL.pure rfl rfl (RanP.move rfl) ?_
  refine RefL.pure rfl rfl (RanP.geq rfl rfl) ?_
  refine RefL.pure rfl rfl (RanP.move rfl) ?_
  refine RefL.cut (enc := fun (x1 : Bool) => ([(14, .bool x1)] : Env)) 4 ?_ ?_
  · refine RefL.ite (s := 10) rfl ?_ ?_
    · refine RefL.pure rfl rfl (RanP.move rfl) ?_
      refine RefL.pure rfl rfl (RanP.move rfl) ?_
      refine RefL.pure rfl rfl (RanP.leq rfl rfl) ?_
      refine RefL.pure rfl rfl (RanP.pickT rfl rfl) ?_
      refine RefL.nil ?_
      exact RefE.fin (s := (decide (a0 ≤ a2))) ⟨rfl, trivial⟩
    · refine RefL.skip rfl rfl ?_
      refine RefL.skip rfl rfl ?_
      refine RefL.skip rfl rfl ?_
      refine RefL.pure rfl rfl (RanP.pickF rfl rfl) ?_
      refine RefL.nil ?_
      exact RefE.fin (s := false) ⟨rfl, trivial⟩
  · intro x1
    refine RefL.pure rfl rfl (RanP.assign rfl) ?_
    refine RefL.nil ?_
    refine RefE.next ?_
    refine RefC.ret ?_
    refine RefE.retV rfl ?_
    refine RefV.tmp rfl ?_
    exact RefV.nil rfl

def route_visible_l0 (K : Nat) (a0 : ByteArray) (again : Int → G (Unit ⊕ Bool)) (s13 : Int) : G (Unit ⊕ Bool) :=
  if (decide (s13 < (a0.size : Int))) = true then
    chk (0 ≤ s13 ∧ s13 < (a0.size : Int)) <|
    bnd (
      if (decide ((bt a0 s13) ≤ (32 : Int))) = true then
        ret true
      else
        chk (0 ≤ s13 ∧ s13 < (a0.size : Int)) <|
        ret (decide ((126 : Int) < (bt a0 s13)))) fun (x15 : Bool) =>
    if x15 = true then
      inr (ret false)
    else
      again ((IntKind.wrap .i64 (s13 + (1 : Int))))
  else
    ret (.inl ())
def route_visible (K : Nat) (a0 : ByteArray) : G (Bool) :=
  bnd (
    loopG (route_visible_l0 K a0) K ((0 : Int))) (sumK fun (s17 : Unit) =>
  lt (!sEq a0 (ByteArray.mk #[])) fun x18 =>
  ret x18)
set_option maxRecDepth 100000 in
theorem route_visible_ref (K : Nat) (a0 : ByteArray) : Does Tryz.prog 131 [.string a0] (route_visible K a0) (fun r => .bool r) := by
  refine Does.of Tryz.func131 rfl rfl rfl ?_
  unfold route_visible
  refine RefC.seq ?_
  refine RefC.region ?_
  refine RefL.pure rfl rfl (RanP.assign rfl) ?_
  refine RefL.nil ?_
  refine RefE.next ?_
  refine RefC.seq ?_
  refine RefC.seq ?_
  refine RefC.region ?_
  refine RefL.pure rfl rfl (RanP.move rfl) ?_
  refine RefL.pure rfl rfl (RanP.lenS rfl Tryz.underlying9 rfl) ?_
  refine RefL.pure rfl rfl (RanP.move rfl) ?_
  refine RefL.nil ?_
  refine RefE.next ?_
  refine RefC.cutSum (enc := fun (s17 : Unit) => ([(0, .string a0)] : Env)) (KThen.mono KRet.mono) ?_ ?_
  · refine RefC.block ?_
    refine RefC.loopW (enc := fun (s13 : Int) => ([(6, .int .i64 s13), (0, .string a0), (5, .int .i64 (a0.size : Int))] : Env)) ⟨rfl, rfl, rfl, trivial⟩ ?_ _
    intro again k ih s13
    unfold route_visible_l0
    refine RefC.seq ?_
    refine RefC.region ?_
    refine RefL.pure rfl rfl (RanP.lss rfl rfl) ?_
    refine RefL.nil ?_
    refine RefE.next ?_
    refine RefC.seq ?_
    refine RefC.cond rfl ?_ ?_
    · refine RefC.skip ?_
      refine RefE.next ?_
      refine RefC.seq ?_
      refine RefC.block ?_
      refine RefC.seq ?_
      refine RefC.region ?_
      refine RefL.pure rfl rfl (RanP.move rfl) ?_
      refine RefL.pure rfl rfl (RanP.assign rfl) ?_
      refine RefL.nil ?_
      refine RefE.next ?_
      refine RefC.seq ?_
      refine RefC.region ?_
      refine RefL.pure rfl rfl (RanP.move rfl) ?_
      refine RefL.pure rfl rfl (RanP.move rfl) ?_
      refine RefL.chk fun h14 => ?_
      refine RefL.pure rfl rfl (RanP.indexS h14 Tryz.underlying9 rfl rfl) ?_
      refine RefL.pure rfl rfl (RanP.leq rfl rfl) ?_
      refine RefL.pure rfl rfl (RanP.move rfl) ?_
      refine RefL.cut (enc := fun (x15 : Bool) => ([(18, .bool x15), (0, .string a0), (5, .int .i64 (a0.size : Int)), (6, .int .i64 s13)] : Env)) 5 ?_ ?_
      · refine RefL.ite (s := 13) rfl ?_ ?_
        · refine RefL.skip rfl rfl ?_
          refine RefL.skip rfl rfl ?_
          refine RefL.skip rfl rfl ?_
          refine RefL.skip rfl rfl ?_
          refine RefL.pure rfl rfl (RanP.pickT rfl rfl) ?_
          refine RefL.nil ?_
          exact RefE.fin (s := true) ⟨rfl, rfl, rfl, rfl, trivial⟩
        · refine RefL.pure rfl rfl (RanP.move rfl) ?_
          refine RefL.pure rfl rfl (RanP.move rfl) ?_
          refine RefL.chk fun h16 => ?_
          refine RefL.pure rfl rfl (RanP.indexS h16 Tryz.underlying9 rfl rfl) ?_
          refine RefL.pure rfl rfl (RanP.gtr rfl rfl) ?_
          refine RefL.pure rfl rfl (RanP.pickF rfl rfl) ?_
          refine RefL.nil ?_
          exact RefE.fin (s := (decide ((126 : Int) < (bt a0 s13)))) ⟨rfl, rfl, rfl, rfl, trivial⟩
      · intro x15
        refine RefL.nil ?_
        refine RefE.next ?_
        refine RefC.cond rfl ?_ ?_
        · refine RefC.seq ?_
          refine RefC.region ?_
          refine RefL.pure rfl rfl (RanP.assign rfl) ?_
          refine RefL.nil ?_
          refine RefE.next ?_
          refine RefC.ret ?_
          refine RefE.blockRet ?_
          refine RefE.thenRet ?_
          refine RefE.roundRet ?_
          refine RefE.blockRet ?_
          refine RefE.finR ?_
          refine RefE.thenRet ?_
          refine RefE.retV rfl ?_
          refine RefV.tmp rfl ?_
          exact RefV.nil rfl
        · refine RefC.skip ?_
          refine RefE.blockNormal ?_
          refine RefE.next ?_
          refine RefC.region ?_
          refine RefL.pure rfl rfl (RanP.add rfl rfl) ?_
          refine RefL.pure rfl rfl (RanP.move rfl) ?_
          refine RefL.nil ?_
          exact RefE.again (ih ((IntKind.wrap .i64 (s13 + (1 : Int))))) ⟨rfl, rfl, rfl, trivial⟩
    · refine RefC.exit ?_
      refine RefE.thenExit ?_
      refine RefE.roundExit ?_
      refine RefE.blockExit ?_
      exact RefE.finL (s := ()) ⟨rfl, trivial⟩
  · intro s17
    refine RefE.next ?_
    refine RefC.seq ?_
    refine RefC.region ?_
    refine RefL.pure rfl rfl (RanP.move rfl) ?_
    refine RefL.pure rfl rfl (RanP.neqS rfl rfl) ?_
    refine RefL.pure rfl rfl (RanP.assign rfl) ?_
    refine RefL.lt 2 (fun y => .bool y) rfl fun x18 => ?_
    refine RefL.nil ?_
    refine RefE.next ?_
    refine RefC.ret ?_
    refine RefE.retV rfl ?_
    refine RefV.tmp rfl ?_
    exact RefV.nil rfl

def internal_stringslite_IndexByte (K : Nat) (a0 : ByteArray) (a1 : Int) : G (Int) :=
  lt (Lib.indexByte a0.data.toList (a1).toNat.toUInt8) fun x1 =>
  ret x1
set_option maxRecDepth 100000 in
theorem internal_stringslite_IndexByte_ref (K : Nat) (a0 : ByteArray) (a1 : Int) : Does Tryz.prog 179 [.string a0, .int .u8 a1] (internal_stringslite_IndexByte K a0 a1) (fun r => .int .i64 r) := by
  refine Does.of Tryz.func179 rfl rfl rfl ?_
  unfold internal_stringslite_IndexByte
  refine RefC.seq ?_
  refine RefC.region ?_
  refine RefL.pure rfl rfl (RanP.assign rfl) ?_
  refine RefL.nil ?_
  refine RefE.next ?_
  refine RefC.seq ?_
  refine RefC.region ?_
  refine RefL.pure rfl rfl (RanP.move rfl) ?_
  refine RefL.pure rfl rfl (RanP.move rfl) ?_
  refine RefL.pure rfl rfl (RanP.extern (ext_186 a0 a1) rfl rfl) ?_
  refine RefL.pure rfl rfl (RanP.assign rfl) ?_
  refine RefL.lt 4 (fun y => .int .i64 y) rfl fun x1 => ?_
  refine RefL.nil ?_
  refine RefE.next ?_
  refine RefC.ret ?_
  refine RefE.retV rfl ?_
  refine RefV.tmp rfl ?_
  exact RefV.nil rfl

def internal_stringslite_Index (K : Nat) (a0 : ByteArray) (a1 : ByteArray) : G (Int) :=
  lt (a1.size : Int) fun x1 =>
  bnd (
    if (x1 == (0 : Int)) = true then
      ret true
    else
      ret (sEq a1 a0)) fun (x2 : Bool) =>
  if x2 = true then
    ret (0 : Int)
  else
    lt (x1 == (1 : Int)) fun x3 =>
    if x3 = true then
      chk (0 ≤ (0 : Int) ∧ (0 : Int) < (a1.size : Int)) <|
      bnd (internal_stringslite_IndexByte K a0 (bt a1 (0 : Int))) fun x5 =>
      ret x5
    else
      lt (decide ((a0.size : Int) ≤ x1)) fun x6 =>
      if x6 = true then
        ret (-1 : Int)
      else
        fail
set_option maxRecDepth 100000 in
theorem internal_stringslite_Index_ref (K : Nat) (a0 : ByteArray) (a1 : ByteArray) : Does Tryz.prog 178 [.string a0, .string a1] (internal_stringslite_Index K a0 a1) (fun r => .int .i64 r) := by
  refine Does.of Tryz.func178 rfl rfl rfl ?_
  unfold internal_stringslite_Index
  refine RefC.seq ?_
  refine RefC.region ?_
  refine RefL.pure rfl rfl (RanP.assign rfl) ?_
  refine RefL.nil ?_
  refine RefE.next ?_
  refine RefC.seq ?_
  refine RefC.region ?_
  refine RefL.pure rfl rfl (RanP.move rfl) ?_
  refine RefL.pure rfl rfl (RanP.lenS rfl Tryz.underlying9 rfl) ?_
  refine RefL.pure rfl rfl (RanP.assign rfl) ?_
  refine RefL.lt 5 (fun y => .int .i64 y) rfl fun x1 => ?_
  refine RefL.nil ?_
  refine RefE.next ?_
  refine RefC.seq ?_
  refine RefC.block ?_
  refine RefC.seq ?_
  refine RefC.region ?_
  refine RefL.pure rfl rfl (RanP.move rfl) ?_
  refine RefL.pure rfl rfl (RanP.eql rfl rfl) ?_
  refine RefL.pure rfl rfl (RanP.move rfl) ?_
  refine RefL.cut (enc := fun (x2 : Bool) => ([(23, .bool x2), (0, .string a0), (1, .string a1), (5, .int .i64 x1)] : Env)) 4 ?_ ?_
  · refine RefL.ite (s := 19) rfl ?_ ?_
    · refine RefL.skip rfl rfl ?_
      refine RefL.skip rfl rfl ?_
      refine RefL.skip rfl rfl ?_
      refine RefL.pure rfl rfl (RanP.pickT rfl rfl) ?_
      refine RefL.nil ?_
      exact RefE.fin (s := true) ⟨rfl, rfl, rfl, rfl, trivial⟩
    · refine RefL.pure rfl rfl (RanP.move rfl) ?_
      refine RefL.pure rfl rfl (RanP.move rfl) ?_
      refine RefL.pure rfl rfl (RanP.eqlS rfl rfl) ?_
      refine RefL.pure rfl rfl (RanP.pickF rfl rfl) ?_
      refine RefL.nil ?_
      exact RefE.fin (s := (sEq a1 a0)) ⟨rfl, rfl, rfl, rfl, trivial⟩
  · intro x2
    refine RefL.pure rfl rfl (RanP.assign rfl) ?_
    refine RefL.nil ?_
    refine RefE.next ?_
    refine RefC.cond rfl ?_ ?_
    · refine RefC.seq ?_
      refine RefC.region ?_
      refine RefL.pure rfl rfl (RanP.assign rfl) ?_
      refine RefL.nil ?_
      refine RefE.next ?_
      refine RefC.ret ?_
      refine RefE.blockRet ?_
      refine RefE.thenRet ?_
      refine RefE.retV rfl ?_
      refine RefV.tmp rfl ?_
      exact RefV.nil rfl
    · refine RefC.seq ?_
      refine RefC.region ?_
      refine RefL.pure rfl rfl (RanP.move rfl) ?_
      refine RefL.pure rfl rfl (RanP.eql rfl rfl) ?_
      refine RefL.pure rfl rfl (RanP.assign rfl) ?_
      refine RefL.lt 24 (fun y => .bool y) rfl fun x3 => ?_
      refine RefL.nil ?_
      refine RefE.next ?_
      refine RefC.cond rfl ?_ ?_
      · refine RefC.seq ?_
        refine RefC.region ?_
        refine RefL.pure rfl rfl (RanP.move rfl) ?_
        refine RefL.pure rfl rfl (RanP.move rfl) ?_
        refine RefL.chk fun h4 => ?_
        refine RefL.pure rfl rfl (RanP.indexS h4 Tryz.underlying9 rfl rfl) ?_
        refine RefL.hv rfl rfl (Hv.call (internal_stringslite_IndexByte_ref K a0 (bt a1 (0 : Int))) Tryz.call179 rfl rfl rfl fun x5 => ?_)
        refine RefL.pure rfl rfl (RanP.assign rfl) ?_
        refine RefL.nil ?_
        refine RefE.next ?_
        refine RefC.ret ?_
        refine RefE.blockRet ?_
        refine RefE.thenRet ?_
        refine RefE.retV rfl ?_
        refine RefV.tmp rfl ?_
        exact RefV.nil rfl
      · refine RefC.seq ?_
        refine RefC.region ?_
        refine RefL.pure rfl rfl (RanP.move rfl) ?_
        refine RefL.pure rfl rfl (RanP.move rfl) ?_
        refine RefL.pure rfl rfl (RanP.lenS rfl Tryz.underlying9 rfl) ?_
        refine RefL.pure rfl rfl (RanP.geq rfl rfl) ?_
        refine RefL.pure rfl rfl (RanP.assign rfl) ?_
        refine RefL.lt 31 (fun y => .bool y) rfl fun x6 => ?_
        refine RefL.nil ?_
        refine RefE.next ?_
        refine RefC.cond rfl ?_ ?_
        · refine RefC.seq ?_
          refine RefC.region ?_
          refine RefL.pure rfl rfl (RanP.assign rfl) ?_
          refine RefL.nil ?_
          refine RefE.next ?_
          refine RefC.ret ?_
          refine RefE.blockRet ?_
          refine RefE.thenRet ?_
          refine RefE.retV rfl ?_
          refine RefV.tmp rfl ?_
          exact RefV.nil rfl
        · refine RefC.seq ?_
          exact RefC.fails

def strings_Index (K : Nat) (a0 : ByteArray) (a1 : ByteArray) : G (Int) :=
  bnd (internal_stringslite_Index K a0 a1) fun x1 =>
  ret x1
set_option maxRecDepth 100000 in
theorem strings_Index_ref (K : Nat) (a0 : ByteArray) (a1 : ByteArray) : Does Tryz.prog 161 [.string a0, .string a1] (strings_Index K a0 a1) (fun r => .int .i64 r) := by
  refine Does.of Tryz.func161 rfl rfl rfl ?_
  unfold strings_Index
  refine RefC.seq ?_
  refine RefC.region ?_
  refine RefL.pure rfl rfl (RanP.assign rfl) ?_
  refine RefL.nil ?_
  refine RefE.next ?_
  refine RefC.seq ?_
  refine RefC.region ?_
  refine RefL.pure rfl rfl (RanP.move rfl) ?_
  refine RefL.pure rfl rfl (RanP.move rfl) ?_
  refine RefL.hv rfl rfl (Hv.call (internal_stringslite_Index_ref K a0 a1) Tryz.call178 rfl rfl rfl fun x1 => ?_)
  refine RefL.pure rfl rfl (RanP.assign rfl) ?_
  refine RefL.nil ?_
  refine RefE.next ?_
  refine RefC.ret ?_
  refine RefE.retV rfl ?_
  refine RefV.tmp rfl ?_
  exact RefV.nil rfl

def strings_Contains (K : Nat) (a0 : ByteArray) (a1 : ByteArray) : G (Bool) :=
  bnd (strings_Index K a0 a1) fun x1 =>
  lt (decide ((0 : Int) ≤ x1)) fun x2 =>
  ret x2
set_option maxRecDepth 100000 in
theorem strings_Contains_ref (K : Nat) (a0 : ByteArray) (a1 : ByteArray) : Does Tryz.prog 132 [.string a0, .string a1] (strings_Contains K a0 a1) (fun r => .bool r) := by
  refine Does.of Tryz.func132 rfl rfl rfl ?_
  unfold strings_Contains
  refine RefC.seq ?_
  refine RefC.region ?_
  refine RefL.pure rfl rfl (RanP.assign rfl) ?_
  refine RefL.nil ?_
  refine RefE.next ?_
  refine RefC.seq ?_
  refine RefC.region ?_
  refine RefL.pure rfl rfl (RanP.move rfl) ?_
  refine RefL.pure rfl rfl (RanP.move rfl) ?_
  refine RefL.hv rfl rfl (Hv.call (strings_Index_ref K a0 a1) Tryz.call161 rfl rfl rfl fun x1 => ?_)
  refine RefL.pure rfl rfl (RanP.geq rfl rfl) ?_
  refine RefL.pure rfl rfl (RanP.assign rfl) ?_
  refine RefL.lt 4 (fun y => .bool y) rfl fun x2 => ?_
  refine RefL.nil ?_
  refine RefE.next ?_
  refine RefC.ret ?_
  refine RefE.retV rfl ?_
  refine RefV.tmp rfl ?_
  exact RefV.nil rfl

def strings_IndexByte (K : Nat) (a0 : ByteArray) (a1 : Int) : G (Int) :=
  bnd (internal_stringslite_IndexByte K a0 a1) fun x1 =>
  ret x1
set_option maxRecDepth 100000 in
theorem strings_IndexByte_ref (K : Nat) (a0 : ByteArray) (a1 : Int) : Does Tryz.prog 162 [.string a0, .int .u8 a1] (strings_IndexByte K a0 a1) (fun r => .int .i64 r) := by
  refine Does.of Tryz.func162 rfl rfl rfl ?_
  unfold strings_IndexByte
  refine RefC.seq ?_
  refine RefC.region ?_
  refine RefL.pure rfl rfl (RanP.assign rfl) ?_
  refine RefL.nil ?_
  refine RefE.next ?_
  refine RefC.seq ?_
  refine RefC.region ?_
  refine RefL.pure rfl rfl (RanP.move rfl) ?_
  refine RefL.pure rfl rfl (RanP.move rfl) ?_
  refine RefL.hv rfl rfl (Hv.call (internal_stringslite_IndexByte_ref K a0 a1) Tryz.call179 rfl rfl rfl fun x1 => ?_)
  refine RefL.pure rfl rfl (RanP.assign rfl) ?_
  refine RefL.nil ?_
  refine RefE.next ?_
  refine RefC.ret ?_
  refine RefE.retV rfl ?_
  refine RefV.tmp rfl ?_
  exact RefV.nil rfl

def head_Token_l0 (K : Nat) (a0 : ByteArray) (again : Int → G (Unit ⊕ Bool)) (s34 : Int) : G (Unit ⊕ Bool) :=
  if (decide (s34 < (a0.size : Int))) = true then
    chk (0 ≤ s34 ∧ s34 < (a0.size : Int)) <|
    lt (bt a0 s34) fun x36 =>
    bnd (
      if (decide ((97 : Int) ≤ x36)) = true then
        ret (decide (x36 ≤ (122 : Int)))
      else
        ret false) fun (x37 : Bool) =>
    bnd (
      if x37 = true then
        ret (x37)
      else
        bnd (
          if (decide ((65 : Int) ≤ x36)) = true then
            ret (decide (x36 ≤ (90 : Int)))
          else
            ret false) fun (x40 : Bool) =>
        if x40 = true then
          ret (x40)
        else
          bnd (
            if (decide ((48 : Int) ≤ x36)) = true then
              ret (decide (x36 ≤ (57 : Int)))
            else
              ret false) fun (x41 : Bool) =>
          ret (x41)) fun (s42 : Bool) =>
    if s42 = true then
      again ((IntKind.wrap .i64 (s34 + (1 : Int))))
    else
      bnd (strings_IndexByte K (ByteArray.mk #[33, 35, 36, 37, 38, 39, 42, 43, 45, 46, 94, 95, 96, 124, 126]) x36) fun x43 =>
      lt (decide (x43 < (0 : Int))) fun x44 =>
      if x44 = true then
        inr (ret false)
      else
        again ((IntKind.wrap .i64 (s34 + (1 : Int))))
  else
    ret (.inl ())
def head_Token (K : Nat) (a0 : ByteArray) : G (Bool) :=
  bnd (
    loopG (head_Token_l0 K a0) K ((0 : Int))) (sumK fun (s45 : Unit) =>
  lt (!sEq a0 (ByteArray.mk #[])) fun x46 =>
  ret x46)
set_option maxRecDepth 100000 in
theorem head_Token_ref (K : Nat) (a0 : ByteArray) : Does Tryz.prog 133 [.string a0] (head_Token K a0) (fun r => .bool r) := by
  refine Does.of Tryz.func133 rfl rfl rfl ?_
  unfold head_Token
  refine RefC.seq ?_
  refine RefC.region ?_
  refine RefL.pure rfl rfl (RanP.assign rfl) ?_
  refine RefL.nil ?_
  refine RefE.next ?_
  refine RefC.scope ?_
  refine RefC.seq ?_
  refine RefC.label ?_
  refine RefE.next ?_
  refine RefC.seq ?_
  refine RefC.seq ?_
  refine RefC.region ?_
  refine RefL.pure rfl rfl (RanP.move rfl) ?_
  refine RefL.pure rfl rfl (RanP.lenS rfl Tryz.underlying9 rfl) ?_
  refine RefL.pure rfl rfl (RanP.move rfl) ?_
  refine RefL.nil ?_
  refine RefE.next ?_
  refine RefC.cutSum (enc := fun (s45 : Unit) => ([(0, .string a0)] : Env)) (KThen.mono (KScope.mono KRet.mono)) ?_ ?_
  · refine RefC.block ?_
    refine RefC.loopW (enc := fun (s34 : Int) => ([(7, .int .i64 s34), (0, .string a0), (6, .int .i64 (a0.size : Int))] : Env)) ⟨rfl, rfl, rfl, trivial⟩ ?_ _
    intro again k ih s34
    unfold head_Token_l0
    refine RefC.seq ?_
    refine RefC.region ?_
    refine RefL.pure rfl rfl (RanP.lss rfl rfl) ?_
    refine RefL.nil ?_
    refine RefE.next ?_
    refine RefC.seq ?_
    refine RefC.cond rfl ?_ ?_
    · refine RefC.skip ?_
      refine RefE.next ?_
      refine RefC.seq ?_
      refine RefC.block ?_
      refine RefC.seq ?_
      refine RefC.region ?_
      refine RefL.pure rfl rfl (RanP.move rfl) ?_
      refine RefL.pure rfl rfl (RanP.assign rfl) ?_
      refine RefL.nil ?_
      refine RefE.next ?_
      refine RefC.seq ?_
      refine RefC.region ?_
      refine RefL.pure rfl rfl (RanP.move rfl) ?_
      refine RefL.pure rfl rfl (RanP.move rfl) ?_
      refine RefL.chk fun h35 => ?_
      refine RefL.pure rfl rfl (RanP.indexS h35 Tryz.underlying9 rfl rfl) ?_
      refine RefL.pure rfl rfl (RanP.assign rfl) ?_
      refine RefL.lt 4 (fun y => .int .u8 y) rfl fun x36 => ?_
      refine RefL.nil ?_
      refine RefE.next ?_
      refine RefC.block ?_
      refine RefC.seq ?_
      refine RefC.seq ?_
      refine RefC.region ?_
      refine RefL.pure rfl rfl (RanP.move rfl) ?_
      refine RefL.pure rfl rfl (RanP.geq rfl rfl) ?_
      refine RefL.pure rfl rfl (RanP.move rfl) ?_
      refine RefL.cut (enc := fun (x37 : Bool) => ([(19, .bool x37), (0, .string a0), (4, .int .u8 x36), (6, .int .i64 (a0.size : Int)), (7, .int .i64 s34)] : Env)) 3 ?_ ?_
      · refine RefL.ite (s := 16) rfl ?_ ?_
        · refine RefL.pure rfl rfl (RanP.move rfl) ?_
          refine RefL.pure rfl rfl (RanP.leq rfl rfl) ?_
          refine RefL.pure rfl rfl (RanP.pickT rfl rfl) ?_
          refine RefL.nil ?_
          exact RefE.fin (s := (decide (x36 ≤ (122 : Int)))) ⟨rfl, rfl, rfl, rfl, rfl, trivial⟩
        · refine RefL.skip rfl rfl ?_
          refine RefL.skip rfl rfl ?_
          refine RefL.pure rfl rfl (RanP.pickF rfl rfl) ?_
          refine RefL.nil ?_
          exact RefE.fin (s := false) ⟨rfl, rfl, rfl, rfl, rfl, trivial⟩
      · intro x37
        refine RefL.pure rfl rfl (RanP.assign rfl) ?_
        refine RefL.nil ?_
        refine RefE.next ?_
        refine RefC.cut (enc := fun (s42 : Bool) => ([(13, .bool s42), (0, .string a0), (4, .int .u8 x36), (6, .int .i64 (a0.size : Int)), (7, .int .i64 s34)] : Env)) ?_ ?_
        · refine RefC.cond rfl ?_ ?_
          · refine RefC.skip ?_
            exact RefE.fin (s := (x37)) ⟨rfl, rfl, rfl, rfl, rfl, trivial⟩
          · refine RefC.seq ?_
            refine RefC.region ?_
            refine RefL.pure rfl rfl (RanP.move rfl) ?_
            refine RefL.pure rfl rfl (RanP.geq rfl rfl) ?_
            refine RefL.pure rfl rfl (RanP.move rfl) ?_
            refine RefL.cut (enc := fun (x40 : Bool) => ([(25, .bool x40), (0, .string a0), (4, .int .u8 x36), (6, .int .i64 (a0.size : Int)), (7, .int .i64 s34)] : Env)) 3 ?_ ?_
            · refine RefL.ite (s := 22) rfl ?_ ?_
              · refine RefL.pure rfl rfl (RanP.move rfl) ?_
                refine RefL.pure rfl rfl (RanP.leq rfl rfl) ?_
                refine RefL.pure rfl rfl (RanP.pickT rfl rfl) ?_
                refine RefL.nil ?_
                exact RefE.fin (s := (decide (x36 ≤ (90 : Int)))) ⟨rfl, rfl, rfl, rfl, rfl, trivial⟩
              · refine RefL.skip rfl rfl ?_
                refine RefL.skip rfl rfl ?_
                refine RefL.pure rfl rfl (RanP.pickF rfl rfl) ?_
                refine RefL.nil ?_
                exact RefE.fin (s := false) ⟨rfl, rfl, rfl, rfl, rfl, trivial⟩
            · intro x40
              refine RefL.pure rfl rfl (RanP.assign rfl) ?_
              refine RefL.nil ?_
              refine RefE.next ?_
              refine RefC.cond rfl ?_ ?_
              · refine RefC.skip ?_
                exact RefE.fin (s := (x40)) ⟨rfl, rfl, rfl, rfl, rfl, trivial⟩
              · refine RefC.region ?_
                refine RefL.pure rfl rfl (RanP.move rfl) ?_
                refine RefL.pure rfl rfl (RanP.geq rfl rfl) ?_
                refine RefL.pure rfl rfl (RanP.move rfl) ?_
                refine RefL.cut (enc := fun (x41 : Bool) => ([(31, .bool x41), (0, .string a0), (4, .int .u8 x36), (6, .int .i64 (a0.size : Int)), (7, .int .i64 s34)] : Env)) 3 ?_ ?_
                · refine RefL.ite (s := 28) rfl ?_ ?_
                  · refine RefL.pure rfl rfl (RanP.move rfl) ?_
                    refine RefL.pure rfl rfl (RanP.leq rfl rfl) ?_
                    refine RefL.pure rfl rfl (RanP.pickT rfl rfl) ?_
                    refine RefL.nil ?_
                    exact RefE.fin (s := (decide (x36 ≤ (57 : Int)))) ⟨rfl, rfl, rfl, rfl, rfl, trivial⟩
                  · refine RefL.skip rfl rfl ?_
                    refine RefL.skip rfl rfl ?_
                    refine RefL.pure rfl rfl (RanP.pickF rfl rfl) ?_
                    refine RefL.nil ?_
                    exact RefE.fin (s := false) ⟨rfl, rfl, rfl, rfl, rfl, trivial⟩
                · intro x41
                  refine RefL.pure rfl rfl (RanP.assign rfl) ?_
                  refine RefL.nil ?_
                  exact RefE.fin (s := (x41)) ⟨rfl, rfl, rfl, rfl, rfl, trivial⟩
        · intro s42
          refine RefE.next ?_
          refine RefC.cond rfl ?_ ?_
          · refine RefC.exit ?_
            refine RefE.blockPast rfl ?_
            refine RefE.blockExit ?_
            refine RefE.next ?_
            refine RefC.region ?_
            refine RefL.pure rfl rfl (RanP.add rfl rfl) ?_
            refine RefL.pure rfl rfl (RanP.move rfl) ?_
            refine RefL.nil ?_
            exact RefE.again (ih ((IntKind.wrap .i64 (s34 + (1 : Int))))) ⟨rfl, rfl, rfl, trivial⟩
          · refine RefC.seq ?_
            refine RefC.region ?_
            refine RefL.pure rfl rfl (RanP.move rfl) ?_
            refine RefL.hv rfl rfl (Hv.call (strings_IndexByte_ref K (ByteArray.mk #[33, 35, 36, 37, 38, 39, 42, 43, 45, 46, 94, 95, 96, 124, 126]) x36) Tryz.call162 rfl rfl rfl fun x43 => ?_)
            refine RefL.pure rfl rfl (RanP.lss rfl rfl) ?_
            refine RefL.pure rfl rfl (RanP.assign rfl) ?_
            refine RefL.lt 32 (fun y => .bool y) rfl fun x44 => ?_
            refine RefL.nil ?_
            refine RefE.next ?_
            refine RefC.cond rfl ?_ ?_
            · refine RefC.seq ?_
              refine RefC.region ?_
              refine RefL.pure rfl rfl (RanP.assign rfl) ?_
              refine RefL.nil ?_
              refine RefE.next ?_
              refine RefC.ret ?_
              refine RefE.blockRet ?_
              refine RefE.blockRet ?_
              refine RefE.thenRet ?_
              refine RefE.roundRet ?_
              refine RefE.blockRet ?_
              refine RefE.finR ?_
              refine RefE.thenRet ?_
              refine RefE.scopeRet ?_
              refine RefE.retV rfl ?_
              refine RefV.tmp rfl ?_
              exact RefV.nil rfl
            · refine RefC.skip ?_
              refine RefE.blockNormal ?_
              refine RefE.blockNormal ?_
              refine RefE.next ?_
              refine RefC.region ?_
              refine RefL.pure rfl rfl (RanP.add rfl rfl) ?_
              refine RefL.pure rfl rfl (RanP.move rfl) ?_
              refine RefL.nil ?_
              exact RefE.again (ih ((IntKind.wrap .i64 (s34 + (1 : Int))))) ⟨rfl, rfl, rfl, trivial⟩
    · refine RefC.exit ?_
      refine RefE.thenExit ?_
      refine RefE.roundExit ?_
      refine RefE.blockExit ?_
      exact RefE.finL (s := ()) ⟨rfl, trivial⟩
  · intro s45
    refine RefE.next ?_
    refine RefC.seq ?_
    refine RefC.region ?_
    refine RefL.pure rfl rfl (RanP.move rfl) ?_
    refine RefL.pure rfl rfl (RanP.neqS rfl rfl) ?_
    refine RefL.pure rfl rfl (RanP.assign rfl) ?_
    refine RefL.lt 2 (fun y => .bool y) rfl fun x46 => ?_
    refine RefL.nil ?_
    refine RefE.next ?_
    refine RefC.ret ?_
    refine RefE.scopeRet ?_
    refine RefE.retV rfl ?_
    refine RefV.tmp rfl ?_
    exact RefV.nil rfl

def route_right (K : Nat) (a0 : Tapi_Route) : G (Bool) :=
  new (Agg.cells a0) 100 fun x1 =>
  ldS (x1.add 0) fun x2 =>
  bnd (route_visible K x2) fun x3 =>
  bnd (
    if x3 = true then
      ldS (x1.add 0) fun x5 =>
      chk (0 ≤ (0 : Int) ∧ (0 : Int) < (x5.size : Int)) <|
      ret ((bt x5 (0 : Int)) == (47 : Int))
    else
      ret false) fun (x4 : Bool) =>
  bnd (
    if x4 = true then
      ldS (x1.add 0) fun x8 =>
      bnd (strings_Contains K x8 (ByteArray.mk #[63])) fun x9 =>
      ret (!x9)
    else
      ret false) fun (x7 : Bool) =>
  bnd (
    if x7 = true then
      ldS (x1.add 1) fun x11 =>
      bnd (
        if (sEq x11 (ByteArray.mk #[])) = true then
          ret true
        else
          ldS (x1.add 1) fun x13 =>
          bnd (head_Token K x13) fun x14 =>
          ret x14) fun (x12 : Bool) =>
      ret x12
    else
      ret false) fun (x10 : Bool) =>
  bnd (
    if x10 = true then
      ldS (x1.add 2) fun x16 =>
      bnd (route_visible K x16) fun x17 =>
      ret x17
    else
      ret false) fun (x15 : Bool) =>
  ret x15
set_option maxRecDepth 100000 in
theorem route_right_ref (K : Nat) (a0 : Tapi_Route) : Does Tryz.prog 98 [.agg (Agg.cells a0).toArray] (route_right K a0) (fun r => .bool r) := by
  refine Does.of Tryz.func98 rfl rfl rfl ?_
  unfold route_right
  refine RefC.seq ?_
  refine RefC.region ?_
  refine RefL.hv rfl rfl (Hv.box rfl rfl fun x1 => ?_)
  refine RefL.pure rfl rfl (RanP.assign rfl) ?_
  refine RefL.nil ?_
  refine RefE.next ?_
  refine RefC.seq ?_
  refine RefC.region ?_
  refine RefL.pure rfl rfl (RanP.fieldAddr fa_100_0 rfl) ?_
  refine RefL.li rfl rfl (Lt.ldS Tryz.isAgg9 rfl fun x2 => ?_)
  refine RefL.hv rfl rfl (Hv.call (route_visible_ref K x2) Tryz.call131 rfl rfl rfl fun x3 => ?_)
  refine RefL.pure rfl rfl (RanP.move rfl) ?_
  refine RefL.cut (enc := fun (x4 : Bool) => ([(11, .bool x4), (1, .pointer (some x1))] : Env)) 5 ?_ ?_
  · refine RefL.ite (s := 6) rfl ?_ ?_
    · refine RefL.pure rfl rfl (RanP.fieldAddr fa_100_0 rfl) ?_
      refine RefL.li rfl rfl (Lt.ldS Tryz.isAgg9 rfl fun x5 => ?_)
      refine RefL.chk fun h6 => ?_
      refine RefL.pure rfl rfl (RanP.indexS h6 Tryz.underlying9 rfl rfl) ?_
      refine RefL.pure rfl rfl (RanP.eql rfl rfl) ?_
      refine RefL.pure rfl rfl (RanP.pickT rfl rfl) ?_
      refine RefL.nil ?_
      exact RefE.fin (s := ((bt x5 (0 : Int)) == (47 : Int))) ⟨rfl, rfl, trivial⟩
    · refine RefL.skip rfl rfl ?_
      refine RefL.skip rfl rfl ?_
      refine RefL.skip rfl rfl ?_
      refine RefL.skip rfl rfl ?_
      refine RefL.pure rfl rfl (RanP.pickF rfl rfl) ?_
      refine RefL.nil ?_
      exact RefE.fin (s := false) ⟨rfl, rfl, trivial⟩
  · intro x4
    refine RefL.pure rfl rfl (RanP.move rfl) ?_
    refine RefL.cut (enc := fun (x7 : Bool) => ([(17, .bool x7), (1, .pointer (some x1))] : Env)) 5 ?_ ?_
    · refine RefL.ite (s := 12) rfl ?_ ?_
      · refine RefL.pure rfl rfl (RanP.fieldAddr fa_100_0 rfl) ?_
        refine RefL.li rfl rfl (Lt.ldS Tryz.isAgg9 rfl fun x8 => ?_)
        refine RefL.hv rfl rfl (Hv.call (strings_Contains_ref K x8 (ByteArray.mk #[63])) Tryz.call132 rfl rfl rfl fun x9 => ?_)
        refine RefL.pure rfl rfl (RanP.not rfl) ?_
        refine RefL.pure rfl rfl (RanP.pickT rfl rfl) ?_
        refine RefL.nil ?_
        exact RefE.fin (s := (!x9)) ⟨rfl, rfl, trivial⟩
      · refine RefL.skip rfl rfl ?_
        refine RefL.skip rfl rfl ?_
        refine RefL.skip rfl rfl ?_
        refine RefL.skip rfl rfl ?_
        refine RefL.pure rfl rfl (RanP.pickF rfl rfl) ?_
        refine RefL.nil ?_
        exact RefE.fin (s := false) ⟨rfl, rfl, trivial⟩
    · intro x7
      refine RefL.pure rfl rfl (RanP.move rfl) ?_
      refine RefL.cut (enc := fun (x10 : Bool) => ([(27, .bool x10), (1, .pointer (some x1))] : Env)) 9 ?_ ?_
      · refine RefL.ite (s := 18) rfl ?_ ?_
        · refine RefL.pure rfl rfl (RanP.fieldAddr fa_100_1 rfl) ?_
          refine RefL.li rfl rfl (Lt.ldS Tryz.isAgg9 rfl fun x11 => ?_)
          refine RefL.pure rfl rfl (RanP.eqlS rfl rfl) ?_
          refine RefL.pure rfl rfl (RanP.move rfl) ?_
          refine RefL.cut (enc := fun (x12 : Bool) => ([(26, .bool x12), (1, .pointer (some x1)), (18, .bool true)] : Env)) 4 ?_ ?_
          · refine RefL.ite (s := 22) rfl ?_ ?_
            · refine RefL.skip rfl rfl ?_
              refine RefL.skip rfl rfl ?_
              refine RefL.skip rfl rfl ?_
              refine RefL.pure rfl rfl (RanP.pickT rfl rfl) ?_
              refine RefL.nil ?_
              exact RefE.fin (s := true) ⟨rfl, rfl, rfl, trivial⟩
            · refine RefL.pure rfl rfl (RanP.fieldAddr fa_100_1 rfl) ?_
              refine RefL.li rfl rfl (Lt.ldS Tryz.isAgg9 rfl fun x13 => ?_)
              refine RefL.hv rfl rfl (Hv.call (head_Token_ref K x13) Tryz.call133 rfl rfl rfl fun x14 => ?_)
              refine RefL.pure rfl rfl (RanP.pickF rfl rfl) ?_
              refine RefL.nil ?_
              exact RefE.fin (s := x14) ⟨rfl, rfl, rfl, trivial⟩
          · intro x12
            refine RefL.pure rfl rfl (RanP.pickT rfl rfl) ?_
            refine RefL.nil ?_
            exact RefE.fin (s := x12) ⟨rfl, rfl, trivial⟩
        · refine RefL.skip rfl rfl ?_
          refine RefL.skip rfl rfl ?_
          refine RefL.skip rfl rfl ?_
          refine RefL.skip rfl rfl ?_
          refine RefL.skip rfl rfl ?_
          refine RefL.skip rfl rfl ?_
          refine RefL.skip rfl rfl ?_
          refine RefL.skip rfl rfl ?_
          refine RefL.pure rfl rfl (RanP.pickF rfl rfl) ?_
          refine RefL.nil ?_
          exact RefE.fin (s := false) ⟨rfl, rfl, trivial⟩
      · intro x10
        refine RefL.pure rfl rfl (RanP.move rfl) ?_
        refine RefL.cut (enc := fun (x15 : Bool) => ([(32, .bool x15)] : Env)) 4 ?_ ?_
        · refine RefL.ite (s := 28) rfl ?_ ?_
          · refine RefL.pure rfl rfl (RanP.fieldAddr fa_100_2 rfl) ?_
            refine RefL.li rfl rfl (Lt.ldS Tryz.isAgg9 rfl fun x16 => ?_)
            refine RefL.hv rfl rfl (Hv.call (route_visible_ref K x16) Tryz.call131 rfl rfl rfl fun x17 => ?_)
            refine RefL.pure rfl rfl (RanP.pickT rfl rfl) ?_
            refine RefL.nil ?_
            exact RefE.fin (s := x17) ⟨rfl, trivial⟩
          · refine RefL.skip rfl rfl ?_
            refine RefL.skip rfl rfl ?_
            refine RefL.skip rfl rfl ?_
            refine RefL.pure rfl rfl (RanP.pickF rfl rfl) ?_
            refine RefL.nil ?_
            exact RefE.fin (s := false) ⟨rfl, trivial⟩
        · intro x15
          refine RefL.pure rfl rfl (RanP.assign rfl) ?_
          refine RefL.nil ?_
          refine RefE.next ?_
          refine RefC.ret ?_
          refine RefE.retV rfl ?_
          refine RefV.tmp rfl ?_
          exact RefV.nil rfl

def slices_Index_Route_l0 (K : Nat) (a0 : Sl) (x1 : Addr) (again : Int → G (Unit ⊕ Int)) (s14 : Int) : G (Unit ⊕ Int) :=
  if (decide (s14 < (a0.n : Int))) = true then
    drw <|
    ldG (α := Tapi_Route) x1 fun x15 =>
    ixA a0 s14 3 fun x16 =>
    ldG (α := Tapi_Route) x16 fun x17 =>
    if (Tapi_Route.eqb x15 x17) = true then
      inr (ret s14)
    else
      again ((IntKind.wrap .i64 (s14 + (1 : Int))))
  else
    ret (.inl ())
def slices_Index_Route (K : Nat) (a0 : Sl) (a1 : Tapi_Route) : G (Int) :=
  new (Agg.cells a1) 100 fun x1 =>
  bnd (
    loopG (slices_Index_Route_l0 K a0 x1) K ((0 : Int))) (sumK fun (s18 : Unit) =>
  ret (-1 : Int))
set_option maxRecDepth 100000 in
theorem slices_Index_Route_ref (K : Nat) (a0 : Sl) (a1 : Tapi_Route) : Does Tryz.prog 134 [.slice a0.a a0.n a0.c, .agg (Agg.cells a1).toArray] (slices_Index_Route K a0 a1) (fun r => .int .i64 r) := by
  refine Does.of Tryz.func134 rfl rfl rfl ?_
  unfold slices_Index_Route
  refine RefC.seq ?_
  refine RefC.region ?_
  refine RefL.hv rfl rfl (Hv.box rfl rfl fun x1 => ?_)
  refine RefL.pure rfl rfl (RanP.assign rfl) ?_
  refine RefL.nil ?_
  refine RefE.next ?_
  refine RefC.seq ?_
  refine RefC.seq ?_
  refine RefC.region ?_
  refine RefL.pure rfl rfl (RanP.move rfl) ?_
  refine RefL.pure rfl rfl (RanP.lenSl rfl Tryz.underlying22 rfl) ?_
  refine RefL.pure rfl rfl (RanP.move rfl) ?_
  refine RefL.nil ?_
  refine RefE.next ?_
  refine RefC.cutSum (enc := fun (s18 : Unit) => ([] : Env)) (KThen.mono KRet.mono) ?_ ?_
  · refine RefC.block ?_
    refine RefC.loopW (enc := fun (s14 : Int) => ([(8, .int .i64 s14), (0, .slice a0.a a0.n a0.c), (3, .pointer (some x1)), (7, .int .i64 (a0.n : Int))] : Env)) ⟨rfl, rfl, rfl, rfl, trivial⟩ ?_ _
    intro again k ih s14
    unfold slices_Index_Route_l0
    refine RefC.seq ?_
    refine RefC.region ?_
    refine RefL.pure rfl rfl (RanP.lss rfl rfl) ?_
    refine RefL.nil ?_
    refine RefE.next ?_
    refine RefC.seq ?_
    refine RefC.cond rfl ?_ ?_
    · refine RefC.skip ?_
      refine RefE.next ?_
      refine RefC.seq ?_
      refine RefC.block ?_
      refine RefC.seq ?_
      refine RefC.region ?_
      refine RefL.pure rfl rfl (RanP.move rfl) ?_
      refine RefL.pure rfl rfl (RanP.assign rfl) ?_
      refine RefL.nil ?_
      refine RefE.next ?_
      refine RefC.seq ?_
      refine RefC.draw mixed [0, 0, 0, 6, 14, 31] [.li 0, .lp 1, .lp 2, .lp 3, .li 4, .lp 5] (by kernel_rfl) ?_
      refine RefD.li0 (at_ rfl) rfl (Lt.ldG (τ := Tapi_Route) Tryz.isAgg100 Tryz.sizeOf100 rfl fun x15 => ?_)
      refine RefD.pure (at_ rfl) rfl (RanP.move rfl) ?_
      refine RefD.pure (at_ rfl) rfl (RanP.move rfl) ?_
      refine RefD.any (at_ rfl) rfl (Lt.ixA Tryz.underlying22 Tryz.sizeOf100 rfl rfl fun x16 => ?_)
      refine RefD.li0 (at_ rfl) rfl (Lt.ldG (τ := Tapi_Route) Tryz.isAgg100 Tryz.sizeOf100 rfl fun x17 => ?_)
      refine RefD.pure (at_ rfl) rfl (RanP.eqlA (eq_100_run x15 x17) rfl rfl) ?_
      refine RefD.nil ?_
      refine RefE.next ?_
      refine RefC.cond rfl ?_ ?_
      · refine RefC.seq ?_
        refine RefC.region ?_
        refine RefL.pure rfl rfl (RanP.move rfl) ?_
        refine RefL.pure rfl rfl (RanP.assign rfl) ?_
        refine RefL.nil ?_
        refine RefE.next ?_
        refine RefC.ret ?_
        refine RefE.blockRet ?_
        refine RefE.thenRet ?_
        refine RefE.roundRet ?_
        refine RefE.blockRet ?_
        refine RefE.finR ?_
        refine RefE.thenRet ?_
        refine RefE.retV rfl ?_
        refine RefV.tmp rfl ?_
        exact RefV.nil rfl
      · refine RefC.skip ?_
        refine RefE.blockNormal ?_
        refine RefE.next ?_
        refine RefC.region ?_
        refine RefL.pure rfl rfl (RanP.add rfl rfl) ?_
        refine RefL.pure rfl rfl (RanP.move rfl) ?_
        refine RefL.nil ?_
        exact RefE.again (ih ((IntKind.wrap .i64 (s14 + (1 : Int))))) ⟨rfl, rfl, rfl, rfl, trivial⟩
    · refine RefC.exit ?_
      refine RefE.thenExit ?_
      refine RefE.roundExit ?_
      refine RefE.blockExit ?_
      exact RefE.finL (s := ()) trivial
  · intro s18
    refine RefE.next ?_
    refine RefC.seq ?_
    refine RefC.region ?_
    refine RefL.pure rfl rfl (RanP.assign rfl) ?_
    refine RefL.nil ?_
    refine RefE.next ?_
    refine RefC.ret ?_
    refine RefE.retV rfl ?_
    refine RefV.tmp rfl ?_
    exact RefV.nil rfl

def slices_Contains_Route (K : Nat) (a0 : Sl) (a1 : Tapi_Route) : G (Bool) :=
  new (Agg.cells a1) 100 fun x1 =>
  ldG (α := Tapi_Route) x1 fun x2 =>
  bnd (slices_Index_Route K a0 x2) fun x3 =>
  lt (decide ((0 : Int) ≤ x3)) fun x4 =>
  ret x4
set_option maxRecDepth 100000 in
theorem slices_Contains_Route_ref (K : Nat) (a0 : Sl) (a1 : Tapi_Route) : Does Tryz.prog 99 [.slice a0.a a0.n a0.c, .agg (Agg.cells a1).toArray] (slices_Contains_Route K a0 a1) (fun r => .bool r) := by
  refine Does.of Tryz.func99 rfl rfl rfl ?_
  unfold slices_Contains_Route
  refine RefC.seq ?_
  refine RefC.region ?_
  refine RefL.hv rfl rfl (Hv.box rfl rfl fun x1 => ?_)
  refine RefL.pure rfl rfl (RanP.assign rfl) ?_
  refine RefL.nil ?_
  refine RefE.next ?_
  refine RefC.seq ?_
  refine RefC.region ?_
  refine RefL.pure rfl rfl (RanP.move rfl) ?_
  refine RefL.li rfl rfl (Lt.ldG (τ := Tapi_Route) Tryz.isAgg100 Tryz.sizeOf100 rfl fun x2 => ?_)
  refine RefL.hv rfl rfl (Hv.call (slices_Index_Route_ref K a0 x2) Tryz.call134 rfl rfl rfl fun x3 => ?_)
  refine RefL.pure rfl rfl (RanP.geq rfl rfl) ?_
  refine RefL.pure rfl rfl (RanP.assign rfl) ?_
  refine RefL.lt 4 (fun y => .bool y) rfl fun x4 => ?_
  refine RefL.nil ?_
  refine RefE.next ?_
  refine RefC.ret ?_
  refine RefE.retV rfl ?_
  refine RefV.tmp rfl ?_
  exact RefV.nil rfl

def route_Check_l0 (K : Nat) (x25 : Int) (x26 : Int) (x27 : Int) (x28 : Int) (again : (Bool × Int) → G (Bool)) (s44 : Bool × Int) : G (Bool) :=
  if (decide (s44.2 < (4 : Int))) = true then
    chk (0 ≤ s44.2 ∧ s44.2 < ((4 : Nat) : Int)) <|
    lt (nth [(A4i64.mk x25 x26 x27 x28).e0, (A4i64.mk x25 x26 x27 x28).e1, (A4i64.mk x25 x26 x27 x28).e2, (A4i64.mk x25 x26 x27 x28).e3] s44.2) fun x46 =>
    bnd (
      if s44.1 = true then
        bnd (route_Check_1 K x46 (1 : Int) (1073741824 : Int)) fun x48 =>
        ret x48
      else
        ret false) fun (x47 : Bool) =>
    again (x47, (IntKind.wrap .i64 (s44.2 + (1 : Int))))
  else
    ret (s44.1)
def route_Check_l1 (K : Nat) (x50 : Sl) (x1 : Addr) (again : (Bool × Int) → G (Bool)) (s108 : Bool × Int) : G (Bool) :=
  if (decide (s108.2 < (x50.n : Int))) = true then
    ixA x50 s108.2 3 fun x109 =>
    ldG (α := Tapi_Route) x109 fun x110 =>
    new [.string (ByteArray.mk #[]), .string (ByteArray.mk #[]), .string (ByteArray.mk #[])] 100 fun x111 =>
    st x111 (.agg (Agg.cells x110).toArray) <|
    bnd (
      drw <|
      if s108.1 = true then
        ldG (α := Tapi_Route) x111 fun x119 =>
        bnd (route_right K x119) fun x120 =>
        if x120 = true then
          ldSl (x1.add 0) fun x121 =>
          slS x121 none (some s108.2) none 3 fun x122 =>
          ldG (α := Tapi_Route) x111 fun x123 =>
          bnd (slices_Contains_Route K x122 x123) fun x124 =>
          lt (!x124) fun x125 =>
          ret (x125)
        else
          ret (false)
      else
        ret (false)) fun (s126 : Bool) =>
    again (s126, (IntKind.wrap .i64 (s108.2 + (1 : Int))))
  else
    ret (s108.1)
def route_Check (K : Nat) (a0 : Tapi_Config) : G (Int) :=
  new (Agg.cells a0) 25 fun x1 =>
  ldSl (x1.add 0) fun x2 =>
  bnd (route_Check_1 K (x2.n : Int) (1 : Int) (16 : Int)) fun x3 =>
  bnd (
    if x3 = true then
      ldSl (x1.add 1) fun x5 =>
      ret (decide ((x5.n : Int) ≤ (16 : Int)))
    else
      ret false) fun (x4 : Bool) =>
  bnd (
    if x4 = true then
      ldI .i64 (x1.add 2) fun x7 =>
      bnd (route_Check_1 K x7 (1 : Int) (64 : Int)) fun x8 =>
      ret x8
    else
      ret false) fun (x6 : Bool) =>
  bnd (
    if x6 = true then
      ldI .i64 (x1.add 3) fun x10 =>
      bnd (route_Check_1 K x10 (1 : Int) (65536 : Int)) fun x11 =>
      ret x11
    else
      ret false) fun (x9 : Bool) =>
  bnd (
    if x9 = true then
      ldI .i64 (x1.add 4) fun x13 =>
      bnd (route_Check_1 K x13 (1 : Int) (65536 : Int)) fun x14 =>
      ret x14
    else
      ret false) fun (x12 : Bool) =>
  bnd (
    if x12 = true then
      ldI .i64 (x1.add 5) fun x16 =>
      bnd (route_Check_1 K x16 (1 : Int) (1024 : Int)) fun x17 =>
      ret x17
    else
      ret false) fun (x15 : Bool) =>
  bnd (
    if x15 = true then
      ldI .i64 (x1.add 6) fun x19 =>
      ldI .i64 (x1.add 3) fun x20 =>
      bnd (route_Check_1 K x19 x20 (4194304 : Int)) fun x21 =>
      ret x21
    else
      ret false) fun (x18 : Bool) =>
  bnd (
    if x18 = true then
      ldI .i64 (x1.add 7) fun x23 =>
      bnd (route_Check_1 K x23 (1 : Int) (65536 : Int)) fun x24 =>
      ret x24
    else
      ret false) fun (x22 : Bool) =>
  ldI .i64 (x1.add 8) fun x25 =>
  ldI .i64 (x1.add 9) fun x26 =>
  ldI .i64 (x1.add 10) fun x27 =>
  ldI .i64 (x1.add 11) fun x28 =>
  bnd (
    loopG (route_Check_l0 K x25 x26 x27 x28) K (x22, (0 : Int))) fun (s49 : Bool) =>
  ldSl (x1.add 0) fun x50 =>
  bnd (
    loopG (route_Check_l1 K x50 x1) K (s49, (0 : Int))) fun (s127 : Bool) =>
  if (!s127) = true then
    ret (150 : Int)
  else
    ret (0 : Int)
set_option maxRecDepth 100000 in
theorem route_Check_ref (K : Nat) (a0 : Tapi_Config) : Does Tryz.prog 57 [.agg (Agg.cells a0).toArray] (route_Check K a0) (fun r => .int .i64 r) := by
  refine Does.of Tryz.func57 rfl rfl rfl ?_
  unfold route_Check
  refine RefC.seq ?_
  refine RefC.region ?_
  refine RefL.hv rfl rfl (Hv.box rfl rfl fun x1 => ?_)
  refine RefL.pure rfl rfl (RanP.assign rfl) ?_
  refine RefL.nil ?_
  refine RefE.next ?_
  refine RefC.seq ?_
  refine RefC.region ?_
  refine RefL.pure rfl rfl (RanP.assign rfl) ?_
  refine RefL.nil ?_
  refine RefE.next ?_
  refine RefC.seq ?_
  refine RefC.region ?_
  refine RefL.pure rfl rfl (RanP.move rfl) ?_
  refine RefL.pure rfl rfl (RanP.fieldAddr fa_25_0 rfl) ?_
  refine RefL.li rfl rfl (Lt.ldSl Tryz.isAgg22 rfl fun x2 => ?_)
  refine RefL.pure rfl rfl (RanP.lenSl rfl Tryz.underlying22 rfl) ?_
  refine RefL.hv rfl rfl (Hv.call (route_Check_1_ref K (x2.n : Int) (1 : Int) (16 : Int)) Tryz.call97 rfl rfl rfl fun x3 => ?_)
  refine RefL.pure rfl rfl (RanP.move rfl) ?_
  refine RefL.cut (enc := fun (x4 : Bool) => ([(19, .bool x4), (1, .pointer (some x1)), (3, .func (.func 97) #[] #[])] : Env)) 5 ?_ ?_
  · refine RefL.ite (s := 14) rfl ?_ ?_
    · refine RefL.pure rfl rfl (RanP.fieldAddr fa_25_1 rfl) ?_
      refine RefL.li rfl rfl (Lt.ldSl Tryz.isAgg23 rfl fun x5 => ?_)
      refine RefL.pure rfl rfl (RanP.lenSl rfl Tryz.underlying23 rfl) ?_
      refine RefL.pure rfl rfl (RanP.leq rfl rfl) ?_
      refine RefL.pure rfl rfl (RanP.pickT rfl rfl) ?_
      refine RefL.nil ?_
      exact RefE.fin (s := (decide ((x5.n : Int) ≤ (16 : Int)))) ⟨rfl, rfl, rfl, trivial⟩
    · refine RefL.skip rfl rfl ?_
      refine RefL.skip rfl rfl ?_
      refine RefL.skip rfl rfl ?_
      refine RefL.skip rfl rfl ?_
      refine RefL.pure rfl rfl (RanP.pickF rfl rfl) ?_
      refine RefL.nil ?_
      exact RefE.fin (s := false) ⟨rfl, rfl, rfl, trivial⟩
  · intro x4
    refine RefL.pure rfl rfl (RanP.move rfl) ?_
    refine RefL.cut (enc := fun (x6 : Bool) => ([(25, .bool x6), (1, .pointer (some x1)), (3, .func (.func 97) #[] #[])] : Env)) 5 ?_ ?_
    · refine RefL.ite (s := 20) rfl ?_ ?_
      · refine RefL.pure rfl rfl (RanP.move rfl) ?_
        refine RefL.pure rfl rfl (RanP.fieldAddr fa_25_2 rfl) ?_
        refine RefL.li rfl rfl (Lt.ldI Tryz.isAgg3 rfl fun x7 => ?_)
        refine RefL.hv rfl rfl (Hv.call (route_Check_1_ref K x7 (1 : Int) (64 : Int)) Tryz.call97 rfl rfl rfl fun x8 => ?_)
        refine RefL.pure rfl rfl (RanP.pickT rfl rfl) ?_
        refine RefL.nil ?_
        exact RefE.fin (s := x8) ⟨rfl, rfl, rfl, trivial⟩
      · refine RefL.skip rfl rfl ?_
        refine RefL.skip rfl rfl ?_
        refine RefL.skip rfl rfl ?_
        refine RefL.skip rfl rfl ?_
        refine RefL.pure rfl rfl (RanP.pickF rfl rfl) ?_
        refine RefL.nil ?_
        exact RefE.fin (s := false) ⟨rfl, rfl, rfl, trivial⟩
    · intro x6
      refine RefL.pure rfl rfl (RanP.move rfl) ?_
      refine RefL.cut (enc := fun (x9 : Bool) => ([(31, .bool x9), (1, .pointer (some x1)), (3, .func (.func 97) #[] #[])] : Env)) 5 ?_ ?_
      · refine RefL.ite (s := 26) rfl ?_ ?_
        · refine RefL.pure rfl rfl (RanP.move rfl) ?_
          refine RefL.pure rfl rfl (RanP.fieldAddr fa_25_3 rfl) ?_
          refine RefL.li rfl rfl (Lt.ldI Tryz.isAgg3 rfl fun x10 => ?_)
          refine RefL.hv rfl rfl (Hv.call (route_Check_1_ref K x10 (1 : Int) (65536 : Int)) Tryz.call97 rfl rfl rfl fun x11 => ?_)
          refine RefL.pure rfl rfl (RanP.pickT rfl rfl) ?_
          refine RefL.nil ?_
          exact RefE.fin (s := x11) ⟨rfl, rfl, rfl, trivial⟩
        · refine RefL.skip rfl rfl ?_
          refine RefL.skip rfl rfl ?_
          refine RefL.skip rfl rfl ?_
          refine RefL.skip rfl rfl ?_
          refine RefL.pure rfl rfl (RanP.pickF rfl rfl) ?_
          refine RefL.nil ?_
          exact RefE.fin (s := false) ⟨rfl, rfl, rfl, trivial⟩
      · intro x9
        refine RefL.pure rfl rfl (RanP.move rfl) ?_
        refine RefL.cut (enc := fun (x12 : Bool) => ([(37, .bool x12), (1, .pointer (some x1)), (3, .func (.func 97) #[] #[])] : Env)) 5 ?_ ?_
        · refine RefL.ite (s := 32) rfl ?_ ?_
          · refine RefL.pure rfl rfl (RanP.move rfl) ?_
            refine RefL.pure rfl rfl (RanP.fieldAddr fa_25_4 rfl) ?_
            refine RefL.li rfl rfl (Lt.ldI Tryz.isAgg3 rfl fun x13 => ?_)
            refine RefL.hv rfl rfl (Hv.call (route_Check_1_ref K x13 (1 : Int) (65536 : Int)) Tryz.call97 rfl rfl rfl fun x14 => ?_)
            refine RefL.pure rfl rfl (RanP.pickT rfl rfl) ?_
            refine RefL.nil ?_
            exact RefE.fin (s := x14) ⟨rfl, rfl, rfl, trivial⟩
          · refine RefL.skip rfl rfl ?_
            refine RefL.skip rfl rfl ?_
            refine RefL.skip rfl rfl ?_
            refine RefL.skip rfl rfl ?_
            refine RefL.pure rfl rfl (RanP.pickF rfl rfl) ?_
            refine RefL.nil ?_
            exact RefE.fin (s := false) ⟨rfl, rfl, rfl, trivial⟩
        · intro x12
          refine RefL.pure rfl rfl (RanP.move rfl) ?_
          refine RefL.cut (enc := fun (x15 : Bool) => ([(43, .bool x15), (1, .pointer (some x1)), (3, .func (.func 97) #[] #[])] : Env)) 5 ?_ ?_
          · refine RefL.ite (s := 38) rfl ?_ ?_
            · refine RefL.pure rfl rfl (RanP.move rfl) ?_
              refine RefL.pure rfl rfl (RanP.fieldAddr fa_25_5 rfl) ?_
              refine RefL.li rfl rfl (Lt.ldI Tryz.isAgg3 rfl fun x16 => ?_)
              refine RefL.hv rfl rfl (Hv.call (route_Check_1_ref K x16 (1 : Int) (1024 : Int)) Tryz.call97 rfl rfl rfl fun x17 => ?_)
              refine RefL.pure rfl rfl (RanP.pickT rfl rfl) ?_
              refine RefL.nil ?_
              exact RefE.fin (s := x17) ⟨rfl, rfl, rfl, trivial⟩
            · refine RefL.skip rfl rfl ?_
              refine RefL.skip rfl rfl ?_
              refine RefL.skip rfl rfl ?_
              refine RefL.skip rfl rfl ?_
              refine RefL.pure rfl rfl (RanP.pickF rfl rfl) ?_
              refine RefL.nil ?_
              exact RefE.fin (s := false) ⟨rfl, rfl, rfl, trivial⟩
          · intro x15
            refine RefL.pure rfl rfl (RanP.move rfl) ?_
            refine RefL.cut (enc := fun (x18 : Bool) => ([(51, .bool x18), (1, .pointer (some x1)), (3, .func (.func 97) #[] #[])] : Env)) 7 ?_ ?_
            · refine RefL.ite (s := 44) rfl ?_ ?_
              · refine RefL.pure rfl rfl (RanP.move rfl) ?_
                refine RefL.pure rfl rfl (RanP.fieldAddr fa_25_6 rfl) ?_
                refine RefL.li rfl rfl (Lt.ldI Tryz.isAgg3 rfl fun x19 => ?_)
                refine RefL.pure rfl rfl (RanP.fieldAddr fa_25_3 rfl) ?_
                refine RefL.li rfl rfl (Lt.ldI Tryz.isAgg3 rfl fun x20 => ?_)
                refine RefL.hv rfl rfl (Hv.call (route_Check_1_ref K x19 x20 (4194304 : Int)) Tryz.call97 rfl rfl rfl fun x21 => ?_)
                refine RefL.pure rfl rfl (RanP.pickT rfl rfl) ?_
                refine RefL.nil ?_
                exact RefE.fin (s := x21) ⟨rfl, rfl, rfl, trivial⟩
              · refine RefL.skip rfl rfl ?_
                refine RefL.skip rfl rfl ?_
                refine RefL.skip rfl rfl ?_
                refine RefL.skip rfl rfl ?_
                refine RefL.skip rfl rfl ?_
                refine RefL.skip rfl rfl ?_
                refine RefL.pure rfl rfl (RanP.pickF rfl rfl) ?_
                refine RefL.nil ?_
                exact RefE.fin (s := false) ⟨rfl, rfl, rfl, trivial⟩
            · intro x18
              refine RefL.pure rfl rfl (RanP.move rfl) ?_
              refine RefL.cut (enc := fun (x22 : Bool) => ([(57, .bool x22), (1, .pointer (some x1)), (3, .func (.func 97) #[] #[])] : Env)) 5 ?_ ?_
              · refine RefL.ite (s := 52) rfl ?_ ?_
                · refine RefL.pure rfl rfl (RanP.move rfl) ?_
                  refine RefL.pure rfl rfl (RanP.fieldAddr fa_25_7 rfl) ?_
                  refine RefL.li rfl rfl (Lt.ldI Tryz.isAgg3 rfl fun x23 => ?_)
                  refine RefL.hv rfl rfl (Hv.call (route_Check_1_ref K x23 (1 : Int) (65536 : Int)) Tryz.call97 rfl rfl rfl fun x24 => ?_)
                  refine RefL.pure rfl rfl (RanP.pickT rfl rfl) ?_
                  refine RefL.nil ?_
                  exact RefE.fin (s := x24) ⟨rfl, rfl, rfl, trivial⟩
                · refine RefL.skip rfl rfl ?_
                  refine RefL.skip rfl rfl ?_
                  refine RefL.skip rfl rfl ?_
                  refine RefL.skip rfl rfl ?_
                  refine RefL.pure rfl rfl (RanP.pickF rfl rfl) ?_
                  refine RefL.nil ?_
                  exact RefE.fin (s := false) ⟨rfl, rfl, rfl, trivial⟩
              · intro x22
                refine RefL.pure rfl rfl (RanP.assign rfl) ?_
                refine RefL.nil ?_
                refine RefE.next ?_
                refine RefC.seq ?_
                refine RefC.seq ?_
                refine RefC.region ?_
                refine RefL.pure rfl rfl (RanP.fieldAddr fa_25_8 rfl) ?_
                refine RefL.li rfl rfl (Lt.ldI Tryz.isAgg3 rfl fun x25 => ?_)
                refine RefL.pure rfl rfl (RanP.fieldAddr fa_25_9 rfl) ?_
                refine RefL.li rfl rfl (Lt.ldI Tryz.isAgg3 rfl fun x26 => ?_)
                refine RefL.pure rfl rfl (RanP.fieldAddr fa_25_10 rfl) ?_
                refine RefL.li rfl rfl (Lt.ldI Tryz.isAgg3 rfl fun x27 => ?_)
                refine RefL.pure rfl rfl (RanP.fieldAddr fa_25_11 rfl) ?_
                refine RefL.li rfl rfl (Lt.ldI Tryz.isAgg3 rfl fun x28 => ?_)
                refine RefL.pure rfl rfl (RanP.build rfl (v := .agg (Agg.cells (A4i64.mk x25 x26 x27 x28)).toArray) (fun _ => by kernel_rfl)) ?_
                refine RefL.pure rfl rfl (RanP.move rfl) ?_
                refine RefL.nil ?_
                refine RefE.next ?_
                refine RefC.cut (enc := fun (s49 : Bool) => ([(4, .bool s49), (1, .pointer (some x1))] : Env)) ?_ ?_
                · refine RefC.block ?_
                  refine RefC.loopW (enc := fun (s44 : Bool × Int) => ([(4, .bool s44.1), (67, .int .i64 s44.2), (1, .pointer (some x1)), (3, .func (.func 97) #[] #[]), (66, .agg (Agg.cells (A4i64.mk x25 x26 x27 x28)).toArray)] : Env)) ⟨rfl, rfl, rfl, rfl, rfl, trivial⟩ ?_ _
                  intro again k ih s44
                  unfold route_Check_l0
                  refine RefC.seq ?_
                  refine RefC.region ?_
                  refine RefL.pure rfl rfl (RanP.lss rfl rfl) ?_
                  refine RefL.nil ?_
                  refine RefE.next ?_
                  refine RefC.seq ?_
                  refine RefC.cond rfl ?_ ?_
                  · refine RefC.skip ?_
                    refine RefE.next ?_
                    refine RefC.seq ?_
                    refine RefC.block ?_
                    refine RefC.seq ?_
                    refine RefC.region ?_
                    refine RefL.chk fun h45 => ?_
                    refine RefL.pure rfl rfl (RanP.indexA (l := [(A4i64.mk x25 x26 x27 x28).e0, (A4i64.mk x25 x26 x27 x28).e1, (A4i64.mk x25 x26 x27 x28).e2, (A4i64.mk x25 x26 x27 x28).e3]) h45 rfl rfl Tryz.underlying155 Tryz.isAgg3 Tryz.sizeOf3 rfl rfl) ?_
                    refine RefL.pure rfl rfl (RanP.assign rfl) ?_
                    refine RefL.lt 6 (fun y => .int .i64 y) rfl fun x46 => ?_
                    refine RefL.nil ?_
                    refine RefE.next ?_
                    refine RefC.region ?_
                    refine RefL.pure rfl rfl (RanP.move rfl) ?_
                    refine RefL.pure rfl rfl (RanP.move rfl) ?_
                    refine RefL.cut (enc := fun (x47 : Bool) => ([(75, .bool x47), (1, .pointer (some x1)), (3, .func (.func 97) #[] #[]), (66, .agg (Agg.cells (A4i64.mk x25 x26 x27 x28)).toArray), (67, .int .i64 s44.2)] : Env)) 4 ?_ ?_
                    · refine RefL.ite (s := 71) rfl ?_ ?_
                      · refine RefL.pure rfl rfl (RanP.move rfl) ?_
                        refine RefL.pure rfl rfl (RanP.move rfl) ?_
                        refine RefL.hv rfl rfl (Hv.call (route_Check_1_ref K x46 (1 : Int) (1073741824 : Int)) Tryz.call97 rfl rfl rfl fun x48 => ?_)
                        refine RefL.pure rfl rfl (RanP.pickT rfl rfl) ?_
                        refine RefL.nil ?_
                        exact RefE.fin (s := x48) ⟨rfl, rfl, rfl, rfl, rfl, trivial⟩
                      · refine RefL.skip rfl rfl ?_
                        refine RefL.skip rfl rfl ?_
                        refine RefL.skip rfl rfl ?_
                        refine RefL.pure rfl rfl (RanP.pickF rfl rfl) ?_
                        refine RefL.nil ?_
                        exact RefE.fin (s := false) ⟨rfl, rfl, rfl, rfl, rfl, trivial⟩
                    · intro x47
                      refine RefL.pure rfl rfl (RanP.assign rfl) ?_
                      refine RefL.nil ?_
                      refine RefE.blockNormal ?_
                      refine RefE.next ?_
                      refine RefC.region ?_
                      refine RefL.pure rfl rfl (RanP.add rfl rfl) ?_
                      refine RefL.pure rfl rfl (RanP.move rfl) ?_
                      refine RefL.nil ?_
                      exact RefE.again (ih (x47, (IntKind.wrap .i64 (s44.2 + (1 : Int))))) ⟨rfl, rfl, rfl, rfl, rfl, trivial⟩
                  · refine RefC.exit ?_
                    refine RefE.thenExit ?_
                    refine RefE.roundExit ?_
                    refine RefE.blockExit ?_
                    exact RefE.fin (s := (s44.1)) ⟨rfl, rfl, trivial⟩
                · intro s49
                  refine RefE.next ?_
                  refine RefC.seq ?_
                  refine RefC.seq ?_
                  refine RefC.region ?_
                  refine RefL.pure rfl rfl (RanP.fieldAddr fa_25_0 rfl) ?_
                  refine RefL.li rfl rfl (Lt.ldSl Tryz.isAgg22 rfl fun x50 => ?_)
                  refine RefL.pure rfl rfl (RanP.lenSl rfl Tryz.underlying22 rfl) ?_
                  refine RefL.pure rfl rfl (RanP.move rfl) ?_
                  refine RefL.nil ?_
                  refine RefE.next ?_
                  refine RefC.cut (enc := fun (s127 : Bool) => ([(4, .bool s127)] : Env)) ?_ ?_
                  · refine RefC.block ?_
                    refine RefC.loopW (enc := fun (s108 : Bool × Int) => ([(4, .bool s108.1), (80, .int .i64 s108.2), (1, .pointer (some x1)), (78, .slice x50.a x50.n x50.c), (79, .int .i64 (x50.n : Int))] : Env)) ⟨rfl, rfl, rfl, rfl, rfl, trivial⟩ ?_ _
                    intro again k ih s108
                    unfold route_Check_l1
                    refine RefC.seq ?_
                    refine RefC.region ?_
                    refine RefL.pure rfl rfl (RanP.lss rfl rfl) ?_
                    refine RefL.nil ?_
                    refine RefE.next ?_
                    refine RefC.seq ?_
                    refine RefC.cond rfl ?_ ?_
                    · refine RefC.skip ?_
                      refine RefE.next ?_
                      refine RefC.seq ?_
                      refine RefC.block ?_
                      refine RefC.seq ?_
                      refine RefC.region ?_
                      refine RefL.pure rfl rfl (RanP.move rfl) ?_
                      refine RefL.li rfl rfl (Lt.ixA Tryz.underlying22 Tryz.sizeOf100 rfl rfl fun x109 => ?_)
                      refine RefL.li rfl rfl (Lt.ldG (τ := Tapi_Route) Tryz.isAgg100 Tryz.sizeOf100 rfl fun x110 => ?_)
                      refine RefL.hv rfl rfl (Hv.newZ Tryz.zeroValue100 rfl fun x111 => ?_)
                      refine RefL.pure rfl rfl (RanP.assign rfl) ?_
                      refine RefL.hv rfl rfl (Hv.st Tryz.sizeOf100 rfl rfl rfl ?_)
                      refine RefL.nil ?_
                      refine RefE.next ?_
                      refine RefC.cut (enc := fun (s126 : Bool) => ([(4, .bool s126), (1, .pointer (some x1)), (78, .slice x50.a x50.n x50.c), (79, .int .i64 (x50.n : Int)), (80, .int .i64 s108.2)] : Env)) ?_ ?_
                      · refine RefC.draw mixed [0, 1, 3, 7, 15, 31, 63, 127, 63, 511, 63, 2047, 4095, 8191, 16383] [.lp 0, .lp 1, .li 2, .hv 3, .lp 4, .lp 5, .lp 6, .li 7, .lp 8, .lp 9, .li 10, .hv 11, .lp 12, .lp 13, .lp 14] (by kernel_rfl) ?_
                        refine RefD.pure (at_ rfl) rfl (RanP.move rfl) ?_
                        refine RefD.pure (at_ rfl) rfl (RanP.move rfl) ?_
                        refine RefD.ite (s := 86) rfl ?_ ?_
                        · refine RefD.li0 (at_ rfl) rfl (Lt.ldG (τ := Tapi_Route) Tryz.isAgg100 Tryz.sizeOf100 rfl fun x119 => ?_)
                          refine RefD.hv (at_ rfl) rfl (Hv.call (route_right_ref K x119) Tryz.call98 rfl rfl rfl fun x120 => ?_)
                          refine RefD.pure (at_ rfl) rfl (RanP.pickT rfl rfl) ?_
                          refine RefD.pure (at_ rfl) rfl (RanP.move rfl) ?_
                          refine RefD.ite (s := 90) rfl ?_ ?_
                          · refine RefD.pure (at_ rfl) rfl (RanP.fieldAddr fa_25_0 rfl) ?_
                            refine RefD.li0 (at_ rfl) rfl (Lt.ldSl Tryz.isAgg22 rfl fun x121 => ?_)
                            refine RefD.pure (at_ rfl) rfl (RanP.move rfl) ?_
                            refine RefD.any (at_ rfl) rfl (Lt.slS (kl := .i64) (kh := .i64) (km := .i64) Tryz.underlying22 Tryz.sizeOf100 rfl rfl rfl rfl (by simp) fun x122 => ?_)
                            refine RefD.li0 (at_ rfl) rfl (Lt.ldG (τ := Tapi_Route) Tryz.isAgg100 Tryz.sizeOf100 rfl fun x123 => ?_)
                            refine RefD.hv (at_ rfl) rfl (Hv.call (slices_Contains_Route_ref K x122 x123) Tryz.call99 rfl rfl rfl fun x124 => ?_)
                            refine RefD.pure (at_ rfl) rfl (RanP.not rfl) ?_
                            refine RefD.pure (at_ rfl) rfl (RanP.pickT rfl rfl) ?_
                            refine RefD.pure (at_ rfl) rfl (RanP.assign rfl) ?_
                            refine RefD.lt 4 (fun y => .bool y) rfl fun x125 => ?_
                            refine RefD.nil ?_
                            exact RefE.fin (s := (x125)) ⟨rfl, rfl, rfl, rfl, rfl, trivial⟩
                          · refine RefD.skipP (at_ rfl) rfl ?_
                            refine RefD.skipI (at_ rfl) rfl ?_
                            refine RefD.skipP (at_ rfl) rfl ?_
                            refine RefD.skipP (at_ rfl) rfl ?_
                            refine RefD.skipI (at_ rfl) rfl ?_
                            refine RefD.skipH (at_ rfl) rfl ?_
                            refine RefD.skipP (at_ rfl) rfl ?_
                            refine RefD.pure (at_ rfl) rfl (RanP.pickF rfl rfl) ?_
                            refine RefD.pure (at_ rfl) rfl (RanP.assign rfl) ?_
                            refine RefD.nil ?_
                            exact RefE.fin (s := (false)) ⟨rfl, rfl, rfl, rfl, rfl, trivial⟩
                        · refine RefD.skipI (at_ rfl) rfl ?_
                          refine RefD.skipH (at_ rfl) rfl ?_
                          refine RefD.pure (at_ rfl) rfl (RanP.pickF rfl rfl) ?_
                          refine RefD.pure (at_ rfl) rfl (RanP.move rfl) ?_
                          refine RefD.skipP (at_ rfl) rfl ?_
                          refine RefD.skipI (at_ rfl) rfl ?_
                          refine RefD.skipP (at_ rfl) rfl ?_
                          refine RefD.skipP (at_ rfl) rfl ?_
                          refine RefD.skipI (at_ rfl) rfl ?_
                          refine RefD.skipH (at_ rfl) rfl ?_
                          refine RefD.skipP (at_ rfl) rfl ?_
                          refine RefD.pure (at_ rfl) rfl (RanP.pickF rfl rfl) ?_
                          refine RefD.pure (at_ rfl) rfl (RanP.assign rfl) ?_
                          refine RefD.nil ?_
                          exact RefE.fin (s := (false)) ⟨rfl, rfl, rfl, rfl, rfl, trivial⟩
                      · intro s126
                        refine RefE.blockNormal ?_
                        refine RefE.next ?_
                        refine RefC.region ?_
                        refine RefL.pure rfl rfl (RanP.add rfl rfl) ?_
                        refine RefL.pure rfl rfl (RanP.move rfl) ?_
                        refine RefL.nil ?_
                        exact RefE.again (ih (s126, (IntKind.wrap .i64 (s108.2 + (1 : Int))))) ⟨rfl, rfl, rfl, rfl, rfl, trivial⟩
                    · refine RefC.exit ?_
                      refine RefE.thenExit ?_
                      refine RefE.roundExit ?_
                      refine RefE.blockExit ?_
                      exact RefE.fin (s := (s108.1)) ⟨rfl, trivial⟩
                  · intro s127
                    refine RefE.next ?_
                    refine RefC.seq ?_
                    refine RefC.seq ?_
                    refine RefC.region ?_
                    refine RefL.pure rfl rfl (RanP.move rfl) ?_
                    refine RefL.pure rfl rfl (RanP.not rfl) ?_
                    refine RefL.nil ?_
                    refine RefE.next ?_
                    refine RefC.cond rfl ?_ ?_
                    · refine RefC.seq ?_
                      refine RefC.region ?_
                      refine RefL.pure rfl rfl (RanP.assign rfl) ?_
                      refine RefL.nil ?_
                      refine RefE.next ?_
                      refine RefC.ret ?_
                      refine RefE.thenRet ?_
                      refine RefE.retV rfl ?_
                      refine RefV.tmp rfl ?_
                      exact RefV.nil rfl
                    · refine RefC.skip ?_
                      refine RefE.next ?_
                      refine RefC.seq ?_
                      refine RefC.region ?_
                      refine RefL.pure rfl rfl (RanP.assign rfl) ?_
                      refine RefL.nil ?_
                      refine RefE.next ?_
                      refine RefC.ret ?_
                      refine RefE.retV rfl ?_
                      refine RefV.tmp rfl ?_
                      exact RefV.nil rfl

end Go.Proofs.YtjdnjlnfcbaokaaGreat

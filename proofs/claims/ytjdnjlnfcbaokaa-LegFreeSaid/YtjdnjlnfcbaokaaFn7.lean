/-
  Go functions as programs over the world, and that the model's code does what they say. Printed by gen.py (own work).
-/
import Derived.Test.YtjdnjlnfcbaokaaFn6
set_option linter.unusedVariables false
set_option linter.unusedSimpArgs false
namespace Go.Proofs.Ytjdnjlnfcbaokaa
open Go Go.Lg

def law16_LegFree_l0 (K : Nat) (a1 : Sl) (x8 : Option Addr × Int) (x6 : Addr) (a2 : Sl) (again : Int → G (Unit ⊕ Bool)) (s89 : Int) : G (Unit ⊕ Bool) :=
  if (decide (s89 < (a1.n : Int))) = true then
    ixA a1 s89 1 fun x90 =>
    ldS x90 fun x91 =>
    if (decide ((300 : Int) < (x91.size : Int))) = true then
      inr (ret true)
    else
      bnd (leg_Leg_Free K x8.1) fun x92 =>
      bnd (
        drw <|
        ixA a1 s89 1 fun x99 =>
        ldS x99 fun x100 =>
        bnd (leg_Leg_Send K x8.1 (Tapi_Event.mk (1 : Int) (0 : Int) x100)) fun x101 =>
        if x92 = true then
          ixA a1 s89 1 fun x102 =>
          ldS x102 fun x103 =>
          ldI .i64 (x6.add 3) fun x104 =>
          ret ((!(x101 == (decide ((x103.size : Int) ≤ x104)))))
        else
          ret ((!(x101 == false)))) fun (s105 : Bool) =>
      if s105 = true then
        inr (ret false)
      else
        bnd (
          if (decide (s89 < (a2.n : Int))) = true then
            ixA a2 s89 1 fun x109 =>
            ldI .u8 x109 fun x110 =>
            bnd (leg_Leg_Take K x8.1 (IntKind.wrap .i64 x110)) fun x111 =>
            ret ()
          else
            ret ()) fun (s112 : Unit) =>
        lt (IntKind.wrap .i64 (s89 + (1 : Int))) fun x113 =>
        again (x113)
  else
    ret (.inl ())
def law16_LegFree_l1 (K : Nat) (x8 : Option Addr × Int) (again : Int → G (Unit)) (s141 : Int) : G (Unit) :=
  bnd (
    if (decide (s141 < (1000 : Int))) = true then
      bnd (leg_Leg_Quiet K x8.1) fun x143 =>
      ret (!x143)
    else
      ret false) fun (x142 : Bool) =>
  if x142 = true then
    bnd (leg_Leg_Take K x8.1 (100 : Int)) fun x144 =>
    lt (IntKind.wrap .i64 (s141 + (1 : Int))) fun x145 =>
    again (x145)
  else
    ret ()
def law16_LegFree (K : Nat) (a0 : A3u8) (a1 : Sl) (a2 : Sl) : G (Bool) :=
  new (Agg.cells a0) 40 fun x1 =>
  ldI .u8 (x1.add ((0 : Int).toNat * 1)) fun x2 =>
  ldI .u8 (x1.add ((1 : Int).toNat * 1)) fun x3 =>
  ldI .u8 (x1.add ((2 : Int).toNat * 1)) fun x4 =>
  bnd (law16_Config K x2 x3 x4) fun x5 =>
  new [.slice Sl.nil.a Sl.nil.n Sl.nil.c, .slice Sl.nil.a Sl.nil.n Sl.nil.c, .int .i64 (0 : Int), .int .i64 (0 : Int), .int .i64 (0 : Int), .int .i64 (0 : Int), .int .i64 (0 : Int), .int .i64 (0 : Int), .int .i64 (0 : Int), .int .i64 (0 : Int), .int .i64 (0 : Int), .int .i64 (0 : Int)] 25 fun x6 =>
  st x6 (.agg (Agg.cells x5).toArray) <|
  ldG (α := Tapi_Config) x6 fun x7 =>
  bnd (leg_New K x7 true (0 : Int)) fun x8 =>
  bnd (law16_awake K) fun x9 =>
  bnd (
    if (!x9) = true then
      ret true
    else
      ret (x8.2 != (0 : Int))) fun (x10 : Bool) =>
  bnd (
    if x10 = true then
      ret true
    else
      ret (Option.isNone x8.1)) fun (x11 : Bool) =>
  bnd (
    if x11 = true then
      ret true
    else
      ret (decide ((20 : Int) < (a1.n : Int)))) fun (x12 : Bool) =>
  if x12 = true then
    bnd (law16_awake K) fun x13 =>
    ret x13
  else
    bnd (
      loopG (law16_LegFree_l0 K a1 x8 x6 a2) K ((0 : Int))) (sumK fun (s114 : Unit) =>
    bnd (leg_Leg_Close K x8.1 (1000 : Int) (ByteArray.mk #[])) fun x115 =>
    bnd (
      if (!x115) = true then
        ret true
      else
        bnd (leg_Leg_Free K x8.1) fun x117 =>
        ret x117) fun (x116 : Bool) =>
    bnd (
      if x116 = true then
        ret true
      else
        bnd (leg_Leg_Send K x8.1 (Tapi_Event.mk (1 : Int) (0 : Int) (ByteArray.mk #[]))) fun x119 =>
        ret x119) fun (x118 : Bool) =>
    bnd (
      if x118 = true then
        ret true
      else
        bnd (leg_Leg_Ping K x8.1 (ByteArray.mk #[])) fun x121 =>
        ret x121) fun (x120 : Bool) =>
    bnd (
      if x120 = true then
        ret true
      else
        bnd (leg_Leg_Close K x8.1 (1000 : Int) (ByteArray.mk #[])) fun x123 =>
        ret x123) fun (x122 : Bool) =>
    bnd (
      if x122 = true then
        ret true
      else
        bnd (leg_Leg_Send K x8.1 (Tapi_Event.mk (9 : Int) (0 : Int) (ByteArray.mk #[]))) fun x125 =>
        ret x125) fun (x124 : Bool) =>
    if x124 = true then
      ret false
    else
      bnd (
        loopG (law16_LegFree_l1 K x8) K ((0 : Int))) fun (s146 : Unit) =>
      bnd (leg_Leg_Quiet K x8.1) fun x147 =>
      bnd (
        if x147 = true then
          bnd (leg_Leg_Sent K x8.1) fun x149 =>
          ret x149
        else
          ret false) fun (x148 : Bool) =>
      bnd (
        if x148 = true then
          bnd (leg_Leg_Got K x8.1) fun x151 =>
          ret (!x151)
        else
          ret false) fun (x150 : Bool) =>
      ret x150)
set_option maxRecDepth 100000 in
theorem law16_LegFree_ref (K : Nat) (a0 : A3u8) (a1 : Sl) (a2 : Sl) : Does Try.prog 7 [.agg (Agg.cells a0).toArray, .slice a1.a a1.n a1.c, .slice a2.a a2.n a2.c] (law16_LegFree K a0 a1 a2) (fun r => .bool r) := by
  refine Does.of Try.func7 rfl rfl rfl ?_
  unfold law16_LegFree
  refine RefC.seq ?_
  refine RefC.region ?_
  refine RefL.hv rfl rfl (Hv.box rfl rfl fun x1 => ?_)
  refine RefL.pure rfl rfl (RanP.assign rfl) ?_
  refine RefL.nil ?_
  refine RefE.next ?_
  refine RefC.seq ?_
  refine RefC.region ?_
  refine RefL.pure rfl rfl (RanP.ixArr (len := 3) (by decide) Try.underlying40 Try.sizeOf5 rfl rfl) ?_
  refine RefL.li rfl rfl (Lt.ldI Try.isAgg5 rfl fun x2 => ?_)
  refine RefL.pure rfl rfl (RanP.ixArr (len := 3) (by decide) Try.underlying40 Try.sizeOf5 rfl rfl) ?_
  refine RefL.li rfl rfl (Lt.ldI Try.isAgg5 rfl fun x3 => ?_)
  refine RefL.pure rfl rfl (RanP.ixArr (len := 3) (by decide) Try.underlying40 Try.sizeOf5 rfl rfl) ?_
  refine RefL.li rfl rfl (Lt.ldI Try.isAgg5 rfl fun x4 => ?_)
  refine RefL.hv rfl rfl (Hv.call (law16_Config_ref K x2 x3 x4) Try.call8 rfl rfl rfl fun x5 => ?_)
  refine RefL.hv rfl rfl (Hv.newZ Try.zeroValue25 rfl fun x6 => ?_)
  refine RefL.hv rfl rfl (Hv.st Try.sizeOf25 rfl rfl rfl ?_)
  refine RefL.nil ?_
  refine RefE.next ?_
  refine RefC.seq ?_
  refine RefC.region ?_
  refine RefL.li rfl rfl (Lt.ldG (τ := Tapi_Config) Try.isAgg25 Try.sizeOf25 rfl fun x7 => ?_)
  refine RefL.hv rfl rfl (Hv.call (leg_New_ref K x7 true (0 : Int)) Try.call9 rfl rfl rfl fun x8 => ?_)
  refine RefL.pure rfl rfl (RanP.move rfl) ?_
  refine RefL.pure rfl rfl (RanP.extract rfl rfl) ?_
  refine RefL.pure rfl rfl (RanP.extract rfl rfl) ?_
  refine RefL.pure rfl rfl (RanP.assign rfl) ?_
  refine RefL.pure rfl rfl (RanP.assign rfl) ?_
  refine RefL.nil ?_
  refine RefE.next ?_
  refine RefC.seq ?_
  refine RefC.seq ?_
  refine RefC.region ?_
  refine RefL.hv rfl rfl (Hv.call (law16_awake_ref K) Try.call10 rfl rfl rfl fun x9 => ?_)
  refine RefL.pure rfl rfl (RanP.not rfl) ?_
  refine RefL.pure rfl rfl (RanP.move rfl) ?_
  refine RefL.cut (enc := fun (x10 : Bool) => ([(30, .bool x10), (1, .slice a1.a a1.n a1.c), (2, .slice a2.a a2.n a2.c), (7, .pointer (some x6)), (8, .pointer x8.1)] : Env)) 3 ?_ ?_
  · refine RefL.ite (s := 27) rfl ?_ ?_
    · refine RefL.skip rfl rfl ?_
      refine RefL.skip rfl rfl ?_
      refine RefL.pure rfl rfl (RanP.pickT rfl rfl) ?_
      refine RefL.nil ?_
      exact RefE.fin (s := true) ⟨rfl, rfl, rfl, rfl, rfl, trivial⟩
    · refine RefL.pure rfl rfl (RanP.move rfl) ?_
      refine RefL.pure rfl rfl (RanP.neq rfl rfl) ?_
      refine RefL.pure rfl rfl (RanP.pickF rfl rfl) ?_
      refine RefL.nil ?_
      exact RefE.fin (s := (x8.2 != (0 : Int))) ⟨rfl, rfl, rfl, rfl, rfl, trivial⟩
  · intro x10
    refine RefL.pure rfl rfl (RanP.move rfl) ?_
    refine RefL.cut (enc := fun (x11 : Bool) => ([(34, .bool x11), (1, .slice a1.a a1.n a1.c), (2, .slice a2.a a2.n a2.c), (7, .pointer (some x6)), (8, .pointer x8.1)] : Env)) 3 ?_ ?_
    · refine RefL.ite (s := 31) rfl ?_ ?_
      · refine RefL.skip rfl rfl ?_
        refine RefL.skip rfl rfl ?_
        refine RefL.pure rfl rfl (RanP.pickT rfl rfl) ?_
        refine RefL.nil ?_
        exact RefE.fin (s := true) ⟨rfl, rfl, rfl, rfl, rfl, trivial⟩
      · refine RefL.pure rfl rfl (RanP.move rfl) ?_
        refine RefL.pure rfl rfl (RanP.eqlNil Try.underlying27 rfl rfl) ?_
        refine RefL.pure rfl rfl (RanP.pickF rfl rfl) ?_
        refine RefL.nil ?_
        exact RefE.fin (s := (Option.isNone x8.1)) ⟨rfl, rfl, rfl, rfl, rfl, trivial⟩
    · intro x11
      refine RefL.pure rfl rfl (RanP.move rfl) ?_
      refine RefL.cut (enc := fun (x12 : Bool) => ([(39, .bool x12), (1, .slice a1.a a1.n a1.c), (2, .slice a2.a a2.n a2.c), (7, .pointer (some x6)), (8, .pointer x8.1)] : Env)) 4 ?_ ?_
      · refine RefL.ite (s := 35) rfl ?_ ?_
        · refine RefL.skip rfl rfl ?_
          refine RefL.skip rfl rfl ?_
          refine RefL.skip rfl rfl ?_
          refine RefL.pure rfl rfl (RanP.pickT rfl rfl) ?_
          refine RefL.nil ?_
          exact RefE.fin (s := true) ⟨rfl, rfl, rfl, rfl, rfl, trivial⟩
        · refine RefL.pure rfl rfl (RanP.move rfl) ?_
          refine RefL.pure rfl rfl (RanP.lenSl rfl Try.underlying22 rfl) ?_
          refine RefL.pure rfl rfl (RanP.gtr rfl rfl) ?_
          refine RefL.pure rfl rfl (RanP.pickF rfl rfl) ?_
          refine RefL.nil ?_
          exact RefE.fin (s := (decide ((20 : Int) < (a1.n : Int)))) ⟨rfl, rfl, rfl, rfl, rfl, trivial⟩
      · intro x12
        refine RefL.nil ?_
        refine RefE.next ?_
        refine RefC.cond rfl ?_ ?_
        · refine RefC.seq ?_
          refine RefC.region ?_
          refine RefL.hv rfl rfl (Hv.call (law16_awake_ref K) Try.call10 rfl rfl rfl fun x13 => ?_)
          refine RefL.pure rfl rfl (RanP.assign rfl) ?_
          refine RefL.nil ?_
          refine RefE.next ?_
          refine RefC.ret ?_
          refine RefE.thenRet ?_
          refine RefE.retV rfl ?_
          refine RefV.tmp rfl ?_
          exact RefV.nil rfl
        · refine RefC.skip ?_
          refine RefE.next ?_
          refine RefC.seq ?_
          refine RefC.seq ?_
          refine RefC.region ?_
          refine RefL.pure rfl rfl (RanP.assign rfl) ?_
          refine RefL.nil ?_
          refine RefE.next ?_
          refine RefC.cutSum (enc := fun (s114 : Unit) => ([(8, .pointer x8.1)] : Env)) (KThen.mono KRet.mono) ?_ ?_
          · refine RefC.block ?_
            refine RefC.loopW (enc := fun (s89 : Int) => ([(10, .int .i64 s89), (1, .slice a1.a a1.n a1.c), (2, .slice a2.a a2.n a2.c), (7, .pointer (some x6)), (8, .pointer x8.1)] : Env)) ⟨rfl, rfl, rfl, rfl, rfl, trivial⟩ ?_ _
            intro again k ih s89
            unfold law16_LegFree_l0
            refine RefC.seq ?_
            refine RefC.seq ?_
            refine RefC.region ?_
            refine RefL.pure rfl rfl (RanP.move rfl) ?_
            refine RefL.pure rfl rfl (RanP.move rfl) ?_
            refine RefL.pure rfl rfl (RanP.lenSl rfl Try.underlying22 rfl) ?_
            refine RefL.pure rfl rfl (RanP.lss rfl rfl) ?_
            refine RefL.nil ?_
            refine RefE.next ?_
            refine RefC.cond rfl ?_ ?_
            · refine RefC.skip ?_
              refine RefE.next ?_
              refine RefC.seq ?_
              refine RefC.block ?_
              refine RefC.seq ?_
              refine RefC.seq ?_
              refine RefC.region ?_
              refine RefL.pure rfl rfl (RanP.move rfl) ?_
              refine RefL.pure rfl rfl (RanP.move rfl) ?_
              refine RefL.li rfl rfl (Lt.ixA Try.underlying22 Try.sizeOf9 rfl rfl fun x90 => ?_)
              refine RefL.li rfl rfl (Lt.ldS Try.isAgg9 rfl fun x91 => ?_)
              refine RefL.pure rfl rfl (RanP.lenS rfl Try.underlying9 rfl) ?_
              refine RefL.pure rfl rfl (RanP.gtr rfl rfl) ?_
              refine RefL.nil ?_
              refine RefE.next ?_
              refine RefC.cond rfl ?_ ?_
              · refine RefC.seq ?_
                refine RefC.region ?_
                refine RefL.pure rfl rfl (RanP.assign rfl) ?_
                refine RefL.nil ?_
                refine RefE.next ?_
                refine RefC.ret ?_
                refine RefE.thenRet ?_
                refine RefE.blockRet ?_
                refine RefE.thenRet ?_
                refine RefE.roundRet ?_
                refine RefE.blockRet ?_
                refine RefE.finR ?_
                refine RefE.thenRet ?_
                refine RefE.retV rfl ?_
                refine RefV.tmp rfl ?_
                exact RefV.nil rfl
              · refine RefC.skip ?_
                refine RefE.next ?_
                refine RefC.seq ?_
                refine RefC.region ?_
                refine RefL.pure rfl rfl (RanP.move rfl) ?_
                refine RefL.hv rfl rfl (Hv.call (leg_Leg_Free_ref K x8.1) Try.call26 rfl rfl rfl fun x92 => ?_)
                refine RefL.pure rfl rfl (RanP.assign rfl) ?_
                refine RefL.nil ?_
                refine RefE.next ?_
                refine RefC.seq ?_
                refine RefC.seq ?_
                refine RefC.cut (enc := fun (s105 : Bool) => ([(73, .bool s105), (1, .slice a1.a a1.n a1.c), (2, .slice a2.a a2.n a2.c), (7, .pointer (some x6)), (8, .pointer x8.1), (10, .int .i64 s89)] : Env)) ?_ ?_
                · refine RefC.draw mixed [0, 0, 0, 6, 14, 30, 63, 0, 255, 511, 511, 2047, 4095, 8191, 511, 16895, 65535, 131071, 262143] [.lp 0, .lp 1, .lp 2, .lp 3, .li 4, .lp 5, .lp 7, .hv 6, .lp 8, .lp 9, .lp 10, .lp 11, .li 12, .lp 13, .lp 14, .li 15, .lp 16, .lp 17, .lp 18] (by kernel_rfl) ?_
                  refine RefD.pure (at_ rfl) rfl (RanP.move rfl) ?_
                  refine RefD.pure (at_ rfl) rfl (RanP.move rfl) ?_
                  refine RefD.pure (at_ rfl) rfl (RanP.move rfl) ?_
                  refine RefD.any (at_ rfl) rfl (Lt.ixA Try.underlying22 Try.sizeOf9 rfl rfl fun x99 => ?_)
                  refine RefD.li0 (at_ rfl) rfl (Lt.ldS Try.isAgg9 rfl fun x100 => ?_)
                  refine RefD.pure (at_ rfl) rfl (RanP.build rfl (v := .agg (Agg.cells (Tapi_Event.mk (1 : Int) (0 : Int) x100)).toArray) (fun _ => by kernel_rfl)) ?_
                  refine RefD.pure (at_ rfl) rfl (RanP.move rfl) ?_
                  refine RefD.hv (at_ rfl) rfl (Hv.call (leg_Leg_Send_ref K x8.1 (Tapi_Event.mk (1 : Int) (0 : Int) x100)) Try.call18 rfl rfl rfl fun x101 => ?_)
                  refine RefD.pure (at_ rfl) rfl (RanP.move rfl) ?_
                  refine RefD.ite (s := 63) rfl ?_ ?_
                  · refine RefD.pure (at_ rfl) rfl (RanP.move rfl) ?_
                    refine RefD.pure (at_ rfl) rfl (RanP.move rfl) ?_
                    refine RefD.any (at_ rfl) rfl (Lt.ixA Try.underlying22 Try.sizeOf9 rfl rfl fun x102 => ?_)
                    refine RefD.li0 (at_ rfl) rfl (Lt.ldS Try.isAgg9 rfl fun x103 => ?_)
                    refine RefD.pure (at_ rfl) rfl (RanP.lenS rfl Try.underlying9 rfl) ?_
                    refine RefD.pure (at_ rfl) rfl (RanP.fieldAddr fa_25_3 rfl) ?_
                    refine RefD.li0 (at_ rfl) rfl (Lt.ldI Try.isAgg3 rfl fun x104 => ?_)
                    refine RefD.pure (at_ rfl) rfl (RanP.leq rfl rfl) ?_
                    refine RefD.pure (at_ rfl) rfl (RanP.pickT rfl rfl) ?_
                    refine RefD.pure (at_ rfl) rfl (RanP.neqB Try.underlying4 rfl rfl) ?_
                    refine RefD.nil ?_
                    exact RefE.fin (s := ((!(x101 == (decide ((x103.size : Int) ≤ x104)))))) ⟨rfl, rfl, rfl, rfl, rfl, rfl, trivial⟩
                  · refine RefD.skipP (at_ rfl) rfl ?_
                    refine RefD.skipP (at_ rfl) rfl ?_
                    refine RefD.skipP (at_ rfl) rfl ?_
                    refine RefD.skipI (at_ rfl) rfl ?_
                    refine RefD.skipP (at_ rfl) rfl ?_
                    refine RefD.skipP (at_ rfl) rfl ?_
                    refine RefD.skipI (at_ rfl) rfl ?_
                    refine RefD.skipP (at_ rfl) rfl ?_
                    refine RefD.pure (at_ rfl) rfl (RanP.pickF rfl rfl) ?_
                    refine RefD.pure (at_ rfl) rfl (RanP.neqB Try.underlying4 rfl rfl) ?_
                    refine RefD.nil ?_
                    exact RefE.fin (s := ((!(x101 == false)))) ⟨rfl, rfl, rfl, rfl, rfl, rfl, trivial⟩
                · intro s105
                  refine RefE.next ?_
                  refine RefC.cond rfl ?_ ?_
                  · refine RefC.seq ?_
                    refine RefC.region ?_
                    refine RefL.pure rfl rfl (RanP.assign rfl) ?_
                    refine RefL.nil ?_
                    refine RefE.next ?_
                    refine RefC.ret ?_
                    refine RefE.thenRet ?_
                    refine RefE.blockRet ?_
                    refine RefE.thenRet ?_
                    refine RefE.roundRet ?_
                    refine RefE.blockRet ?_
                    refine RefE.finR ?_
                    refine RefE.thenRet ?_
                    refine RefE.retV rfl ?_
                    refine RefV.tmp rfl ?_
                    exact RefV.nil rfl
                  · refine RefC.skip ?_
                    refine RefE.next ?_
                    refine RefC.seq ?_
                    refine RefC.region ?_
                    refine RefL.pure rfl rfl (RanP.move rfl) ?_
                    refine RefL.pure rfl rfl (RanP.move rfl) ?_
                    refine RefL.pure rfl rfl (RanP.lenSl rfl Try.underlying36 rfl) ?_
                    refine RefL.pure rfl rfl (RanP.lss rfl rfl) ?_
                    refine RefL.nil ?_
                    refine RefE.next ?_
                    refine RefC.cut (enc := fun (s112 : Unit) => ([(1, .slice a1.a a1.n a1.c), (2, .slice a2.a a2.n a2.c), (7, .pointer (some x6)), (8, .pointer x8.1), (10, .int .i64 s89)] : Env)) ?_ ?_
                    · refine RefC.cond rfl ?_ ?_
                      · refine RefC.region ?_
                        refine RefL.pure rfl rfl (RanP.move rfl) ?_
                        refine RefL.pure rfl rfl (RanP.move rfl) ?_
                        refine RefL.pure rfl rfl (RanP.move rfl) ?_
                        refine RefL.li rfl rfl (Lt.ixA Try.underlying36 Try.sizeOf5 rfl rfl fun x109 => ?_)
                        refine RefL.li rfl rfl (Lt.ldI Try.isAgg5 rfl fun x110 => ?_)
                        refine RefL.pure rfl rfl (RanP.conv Try.underlying5 Try.underlying3 rfl) ?_
                        refine RefL.hv rfl rfl (Hv.call (leg_Leg_Take_ref K x8.1 (IntKind.wrap .i64 x110)) Try.call21 rfl rfl rfl fun x111 => ?_)
                        refine RefL.nil ?_
                        exact RefE.fin (s := ()) ⟨rfl, rfl, rfl, rfl, rfl, trivial⟩
                      · refine RefC.skip ?_
                        exact RefE.fin (s := ()) ⟨rfl, rfl, rfl, rfl, rfl, trivial⟩
                    · intro s112
                      refine RefE.blockNormal ?_
                      refine RefE.next ?_
                      refine RefC.region ?_
                      refine RefL.pure rfl rfl (RanP.move rfl) ?_
                      refine RefL.pure rfl rfl (RanP.add rfl rfl) ?_
                      refine RefL.pure rfl rfl (RanP.assign rfl) ?_
                      refine RefL.lt 10 (fun y => .int .i64 y) rfl fun x113 => ?_
                      refine RefL.nil ?_
                      exact RefE.again (ih (x113)) ⟨rfl, rfl, rfl, rfl, rfl, trivial⟩
            · refine RefC.exit ?_
              refine RefE.thenExit ?_
              refine RefE.roundExit ?_
              refine RefE.blockExit ?_
              exact RefE.finL (s := ()) ⟨rfl, trivial⟩
          · intro s114
            refine RefE.next ?_
            refine RefC.seq ?_
            refine RefC.seq ?_
            refine RefC.region ?_
            refine RefL.pure rfl rfl (RanP.move rfl) ?_
            refine RefL.hv rfl rfl (Hv.call (leg_Leg_Close_ref K x8.1 (1000 : Int) (ByteArray.mk #[])) Try.call20 rfl rfl rfl fun x115 => ?_)
            refine RefL.pure rfl rfl (RanP.not rfl) ?_
            refine RefL.pure rfl rfl (RanP.move rfl) ?_
            refine RefL.cut (enc := fun (x116 : Bool) => ([(91, .bool x116), (8, .pointer x8.1)] : Env)) 3 ?_ ?_
            · refine RefL.ite (s := 88) rfl ?_ ?_
              · refine RefL.skip rfl rfl ?_
                refine RefL.skip rfl rfl ?_
                refine RefL.pure rfl rfl (RanP.pickT rfl rfl) ?_
                refine RefL.nil ?_
                exact RefE.fin (s := true) ⟨rfl, rfl, trivial⟩
              · refine RefL.pure rfl rfl (RanP.move rfl) ?_
                refine RefL.hv rfl rfl (Hv.call (leg_Leg_Free_ref K x8.1) Try.call26 rfl rfl rfl fun x117 => ?_)
                refine RefL.pure rfl rfl (RanP.pickF rfl rfl) ?_
                refine RefL.nil ?_
                exact RefE.fin (s := x117) ⟨rfl, rfl, trivial⟩
            · intro x116
              refine RefL.pure rfl rfl (RanP.move rfl) ?_
              refine RefL.cut (enc := fun (x118 : Bool) => ([(96, .bool x118), (8, .pointer x8.1)] : Env)) 4 ?_ ?_
              · refine RefL.ite (s := 92) rfl ?_ ?_
                · refine RefL.skip rfl rfl ?_
                  refine RefL.skip rfl rfl ?_
                  refine RefL.skip rfl rfl ?_
                  refine RefL.pure rfl rfl (RanP.pickT rfl rfl) ?_
                  refine RefL.nil ?_
                  exact RefE.fin (s := true) ⟨rfl, rfl, trivial⟩
                · refine RefL.pure rfl rfl (RanP.move rfl) ?_
                  refine RefL.pure rfl rfl (RanP.build rfl (v := .agg (Agg.cells (Tapi_Event.mk (1 : Int) (0 : Int) (ByteArray.mk #[]))).toArray) (fun _ => by kernel_rfl)) ?_
                  refine RefL.hv rfl rfl (Hv.call (leg_Leg_Send_ref K x8.1 (Tapi_Event.mk (1 : Int) (0 : Int) (ByteArray.mk #[]))) Try.call18 rfl rfl rfl fun x119 => ?_)
                  refine RefL.pure rfl rfl (RanP.pickF rfl rfl) ?_
                  refine RefL.nil ?_
                  exact RefE.fin (s := x119) ⟨rfl, rfl, trivial⟩
              · intro x118
                refine RefL.pure rfl rfl (RanP.move rfl) ?_
                refine RefL.cut (enc := fun (x120 : Bool) => ([(100, .bool x120), (8, .pointer x8.1)] : Env)) 3 ?_ ?_
                · refine RefL.ite (s := 97) rfl ?_ ?_
                  · refine RefL.skip rfl rfl ?_
                    refine RefL.skip rfl rfl ?_
                    refine RefL.pure rfl rfl (RanP.pickT rfl rfl) ?_
                    refine RefL.nil ?_
                    exact RefE.fin (s := true) ⟨rfl, rfl, trivial⟩
                  · refine RefL.pure rfl rfl (RanP.move rfl) ?_
                    refine RefL.hv rfl rfl (Hv.call (leg_Leg_Ping_ref K x8.1 (ByteArray.mk #[])) Try.call19 rfl rfl rfl fun x121 => ?_)
                    refine RefL.pure rfl rfl (RanP.pickF rfl rfl) ?_
                    refine RefL.nil ?_
                    exact RefE.fin (s := x121) ⟨rfl, rfl, trivial⟩
                · intro x120
                  refine RefL.pure rfl rfl (RanP.move rfl) ?_
                  refine RefL.cut (enc := fun (x122 : Bool) => ([(104, .bool x122), (8, .pointer x8.1)] : Env)) 3 ?_ ?_
                  · refine RefL.ite (s := 101) rfl ?_ ?_
                    · refine RefL.skip rfl rfl ?_
                      refine RefL.skip rfl rfl ?_
                      refine RefL.pure rfl rfl (RanP.pickT rfl rfl) ?_
                      refine RefL.nil ?_
                      exact RefE.fin (s := true) ⟨rfl, rfl, trivial⟩
                    · refine RefL.pure rfl rfl (RanP.move rfl) ?_
                      refine RefL.hv rfl rfl (Hv.call (leg_Leg_Close_ref K x8.1 (1000 : Int) (ByteArray.mk #[])) Try.call20 rfl rfl rfl fun x123 => ?_)
                      refine RefL.pure rfl rfl (RanP.pickF rfl rfl) ?_
                      refine RefL.nil ?_
                      exact RefE.fin (s := x123) ⟨rfl, rfl, trivial⟩
                  · intro x122
                    refine RefL.pure rfl rfl (RanP.move rfl) ?_
                    refine RefL.cut (enc := fun (x124 : Bool) => ([(109, .bool x124), (8, .pointer x8.1)] : Env)) 4 ?_ ?_
                    · refine RefL.ite (s := 105) rfl ?_ ?_
                      · refine RefL.skip rfl rfl ?_
                        refine RefL.skip rfl rfl ?_
                        refine RefL.skip rfl rfl ?_
                        refine RefL.pure rfl rfl (RanP.pickT rfl rfl) ?_
                        refine RefL.nil ?_
                        exact RefE.fin (s := true) ⟨rfl, rfl, trivial⟩
                      · refine RefL.pure rfl rfl (RanP.move rfl) ?_
                        refine RefL.pure rfl rfl (RanP.build rfl (v := .agg (Agg.cells (Tapi_Event.mk (9 : Int) (0 : Int) (ByteArray.mk #[]))).toArray) (fun _ => by kernel_rfl)) ?_
                        refine RefL.hv rfl rfl (Hv.call (leg_Leg_Send_ref K x8.1 (Tapi_Event.mk (9 : Int) (0 : Int) (ByteArray.mk #[]))) Try.call18 rfl rfl rfl fun x125 => ?_)
                        refine RefL.pure rfl rfl (RanP.pickF rfl rfl) ?_
                        refine RefL.nil ?_
                        exact RefE.fin (s := x125) ⟨rfl, rfl, trivial⟩
                    · intro x124
                      refine RefL.nil ?_
                      refine RefE.next ?_
                      refine RefC.cond rfl ?_ ?_
                      · refine RefC.seq ?_
                        refine RefC.region ?_
                        refine RefL.pure rfl rfl (RanP.assign rfl) ?_
                        refine RefL.nil ?_
                        refine RefE.next ?_
                        refine RefC.ret ?_
                        refine RefE.thenRet ?_
                        refine RefE.retV rfl ?_
                        refine RefV.tmp rfl ?_
                        exact RefV.nil rfl
                      · refine RefC.skip ?_
                        refine RefE.next ?_
                        refine RefC.seq ?_
                        refine RefC.seq ?_
                        refine RefC.region ?_
                        refine RefL.pure rfl rfl (RanP.assign rfl) ?_
                        refine RefL.nil ?_
                        refine RefE.next ?_
                        refine RefC.cut (enc := fun (s146 : Unit) => ([(8, .pointer x8.1)] : Env)) ?_ ?_
                        · refine RefC.block ?_
                          refine RefC.loopW (enc := fun (s141 : Int) => ([(12, .int .i64 s141), (8, .pointer x8.1)] : Env)) ⟨rfl, rfl, trivial⟩ ?_ _
                          intro again k ih s141
                          unfold law16_LegFree_l1
                          refine RefC.seq ?_
                          refine RefC.seq ?_
                          refine RefC.region ?_
                          refine RefL.pure rfl rfl (RanP.move rfl) ?_
                          refine RefL.pure rfl rfl (RanP.lss rfl rfl) ?_
                          refine RefL.pure rfl rfl (RanP.move rfl) ?_
                          refine RefL.cut (enc := fun (x142 : Bool) => ([(116, .bool x142), (8, .pointer x8.1), (12, .int .i64 s141)] : Env)) 4 ?_ ?_
                          · refine RefL.ite (s := 112) rfl ?_ ?_
                            · refine RefL.pure rfl rfl (RanP.move rfl) ?_
                              refine RefL.hv rfl rfl (Hv.call (leg_Leg_Quiet_ref K x8.1) Try.call24 rfl rfl rfl fun x143 => ?_)
                              refine RefL.pure rfl rfl (RanP.not rfl) ?_
                              refine RefL.pure rfl rfl (RanP.pickT rfl rfl) ?_
                              refine RefL.nil ?_
                              exact RefE.fin (s := (!x143)) ⟨rfl, rfl, rfl, trivial⟩
                            · refine RefL.skip rfl rfl ?_
                              refine RefL.skip rfl rfl ?_
                              refine RefL.skip rfl rfl ?_
                              refine RefL.pure rfl rfl (RanP.pickF rfl rfl) ?_
                              refine RefL.nil ?_
                              exact RefE.fin (s := false) ⟨rfl, rfl, rfl, trivial⟩
                          · intro x142
                            refine RefL.nil ?_
                            refine RefE.next ?_
                            refine RefC.cond rfl ?_ ?_
                            · refine RefC.skip ?_
                              refine RefE.next ?_
                              refine RefC.seq ?_
                              refine RefC.block ?_
                              refine RefC.region ?_
                              refine RefL.pure rfl rfl (RanP.move rfl) ?_
                              refine RefL.hv rfl rfl (Hv.call (leg_Leg_Take_ref K x8.1 (100 : Int)) Try.call21 rfl rfl rfl fun x144 => ?_)
                              refine RefL.nil ?_
                              refine RefE.blockNormal ?_
                              refine RefE.next ?_
                              refine RefC.region ?_
                              refine RefL.pure rfl rfl (RanP.move rfl) ?_
                              refine RefL.pure rfl rfl (RanP.add rfl rfl) ?_
                              refine RefL.pure rfl rfl (RanP.assign rfl) ?_
                              refine RefL.lt 12 (fun y => .int .i64 y) rfl fun x145 => ?_
                              refine RefL.nil ?_
                              exact RefE.again (ih (x145)) ⟨rfl, rfl, trivial⟩
                            · refine RefC.exit ?_
                              refine RefE.thenExit ?_
                              refine RefE.roundExit ?_
                              refine RefE.blockExit ?_
                              exact RefE.fin (s := ()) ⟨rfl, trivial⟩
                        · intro s146
                          refine RefE.next ?_
                          refine RefC.seq ?_
                          refine RefC.region ?_
                          refine RefL.pure rfl rfl (RanP.move rfl) ?_
                          refine RefL.hv rfl rfl (Hv.call (leg_Leg_Quiet_ref K x8.1) Try.call24 rfl rfl rfl fun x147 => ?_)
                          refine RefL.pure rfl rfl (RanP.move rfl) ?_
                          refine RefL.cut (enc := fun (x148 : Bool) => ([(126, .bool x148), (8, .pointer x8.1)] : Env)) 3 ?_ ?_
                          · refine RefL.ite (s := 123) rfl ?_ ?_
                            · refine RefL.pure rfl rfl (RanP.move rfl) ?_
                              refine RefL.hv rfl rfl (Hv.call (leg_Leg_Sent_ref K x8.1) Try.call16 rfl rfl rfl fun x149 => ?_)
                              refine RefL.pure rfl rfl (RanP.pickT rfl rfl) ?_
                              refine RefL.nil ?_
                              exact RefE.fin (s := x149) ⟨rfl, rfl, trivial⟩
                            · refine RefL.skip rfl rfl ?_
                              refine RefL.skip rfl rfl ?_
                              refine RefL.pure rfl rfl (RanP.pickF rfl rfl) ?_
                              refine RefL.nil ?_
                              exact RefE.fin (s := false) ⟨rfl, rfl, trivial⟩
                          · intro x148
                            refine RefL.pure rfl rfl (RanP.move rfl) ?_
                            refine RefL.cut (enc := fun (x150 : Bool) => ([(131, .bool x150)] : Env)) 4 ?_ ?_
                            · refine RefL.ite (s := 127) rfl ?_ ?_
                              · refine RefL.pure rfl rfl (RanP.move rfl) ?_
                                refine RefL.hv rfl rfl (Hv.call (leg_Leg_Got_ref K x8.1) Try.call15 rfl rfl rfl fun x151 => ?_)
                                refine RefL.pure rfl rfl (RanP.not rfl) ?_
                                refine RefL.pure rfl rfl (RanP.pickT rfl rfl) ?_
                                refine RefL.nil ?_
                                exact RefE.fin (s := (!x151)) ⟨rfl, trivial⟩
                              · refine RefL.skip rfl rfl ?_
                                refine RefL.skip rfl rfl ?_
                                refine RefL.skip rfl rfl ?_
                                refine RefL.pure rfl rfl (RanP.pickF rfl rfl) ?_
                                refine RefL.nil ?_
                                exact RefE.fin (s := false) ⟨rfl, trivial⟩
                            · intro x150
                              refine RefL.pure rfl rfl (RanP.assign rfl) ?_
                              refine RefL.nil ?_
                              refine RefE.next ?_
                              refine RefC.ret ?_
                              refine RefE.retV rfl ?_
                              refine RefV.tmp rfl ?_
                              exact RefV.nil rfl

end Go.Proofs.Ytjdnjlnfcbaokaa

/-
  It is proved that the statement 'BridgeEnds' returns true for every input, and leaves its arguments as they were: 'Rows.BridgeEndsSaid'. No condition.
  The frame is the guide's (HOWTO 4), printed by pf.py (own work); what the call comes to is 'bridgeEnds_walk'.
-/
import Derived.Test.YtjdnjlnfcbaokaaGreatRows
import Derived.Test.YtjdnjlnfcbaokaaGreatJn
import Derived.Test.YtjdnjlnfcbaokaaGreatLwBEnds
import Derived.WalkKit
import Derived.ProofKit
import Derived.OpenShut
import Derived.ShutString
import Derived.ChangeOld
import Derived.Below
namespace Go.Proofs.YtjdnjlnfcbaokaaGreat.bridgeEnds
open Go Go.Lg Go.ChangeShapes Go.WideShapes Go.ChangeAt Go.RowKit
set_option linter.unusedVariables false
set_option maxRecDepth 20000

theorem own : ownKnob Tryz.prog.godebug = none := by kernel_rfl
theorem laidOut : laidOutB Tryz.prog = true := by kernel_rfl
instance : Inhabited Tref17_Act := ⟨⟨0, 0, 0, ByteArray.mk #[]⟩⟩
theorem told90 : ToldBy Tryz.prog 90 (fun t : Tref17_Act => Agg.cells t) act17Ok := by
  intro H enc w base spare held fuel cs x hx
  obtain ⟨xs, n, _, _, hl, hxl, hf⟩ := DataW.trod_struct Tryz.underlying90 hx
  have cAll : Tryz.prog.cellsOf 90 = 4 := by kernel_rfl
  have c3 : Tryz.prog.cellsOf 3 = 1 := by kernel_rfl
  have c9 : Tryz.prog.cellsOf 9 = 1 := by kernel_rfl
  rw [cAll] at hl
  have hxn : xs.length = 4 := hxl
  have g : ∀ i, i < 4 → xs[i]? = some (xs.getD i default) := fun i hi => by
    rw [List.getD_eq_getElem?_getD, List.getElem?_eq_getElem (by omega)]; rfl
  have h0 := (hf 0 _ rfl).trans (g 0 (by omega))
  change DataW.trod enc _ w base spare held n 3 ((cs.drop 0).take (Tryz.prog.cellsOf 3)) = _ at h0
  rw [c3] at h0
  obtain ⟨v0, e0, _, w0⟩ := DataW.trod_int Tryz.underlying3 h0
  have h1 := (hf 1 _ rfl).trans (g 1 (by omega))
  change DataW.trod enc _ w base spare held n 3 ((cs.drop 1).take (Tryz.prog.cellsOf 3)) = _ at h1
  rw [c3] at h1
  obtain ⟨v1, e1, _, w1⟩ := DataW.trod_int Tryz.underlying3 h1
  have h2 := (hf 2 _ rfl).trans (g 2 (by omega))
  change DataW.trod enc _ w base spare held n 3 ((cs.drop 2).take (Tryz.prog.cellsOf 3)) = _ at h2
  rw [c3] at h2
  obtain ⟨v2, e2, _, w2⟩ := DataW.trod_int Tryz.underlying3 h2
  have h3 := (hf 3 _ rfl).trans (g 3 (by omega))
  change DataW.trod enc _ w base spare held n 9 ((cs.drop 3).take (Tryz.prog.cellsOf 9)) = _ at h3
  rw [c9] at h3
  obtain ⟨v3, e3, _, w3⟩ := DataW.trod_string Tryz.underlying9 h3
  refine ⟨⟨v0, v1, v2, v3⟩, ?_, ⟨w0, w1, w2, w3⟩⟩
  match cs, hl with
  | [z0, z1, z2, z3], _ =>
    simp at e0 e1 e2 e3
    subst e0; subst e1; subst e2; subst e3; rfl
set_option maxRecDepth 100000 in
theorem lifted (os : Os) (started : os.Started) (H : Type) (enc : TypeId × Value → H) :
    ReturnsInHanded {} Tryz.checked os 13 .any (Rows.bridgeEndsSpec.pre6 enc Tryz.prog Tryz.f13 Rows.bridgeEndsRow.domain false) (Rows.bridgeEndsSpec.post enc Tryz.prog Tryz.f13 false true false false) := by
  refine returnsInHanded_of_change (C := Tryz.checked) own started (by kernel_rfl) Tryz.func13
    (ChangeSpec.witness6 (enc := enc) (C := Tryz.checked) false ⟨#[], #[.agg #[.int .u8 0, .int .u8 0, .int .u8 0, .int .u8 0, .int .u8 0], .int .u32 0, .slice none 0 0], []⟩ 8 (by kernel_rfl) (by kernel_rfl) (by kernel_rfl) (by kernel_rfl)) ?_
  intro W base args ds gs before hval0 hW hcnd _
  have hval : ∀ (j : Nat) t v, Tryz.f13.params[j]? = some t → args[j]? = some v → Value.okWide Tryz.prog W .any base t v := hval0
  have hW' := hW
  obtain ⟨p, q, hA0, hV, rfl, hfz, hnd⟩ := hW
  have hA : DataW.TrodAll enc Tryz.prog W 0 (fun _ => true) true Tryz.f13.params.toList args.toList ds p := hA0
  rw [Tryz.params13] at hA hval
  obtain ⟨v0, vs0, d0, ds0, p0, q0, hargs, rfl, rfl, h0, r0⟩ := trodAll_cons hA
  obtain ⟨v1, vs1, d1, ds1, p1, q1, rfl, rfl, rfl, h1, r1⟩ := trodAll_cons r0
  obtain ⟨v2, vs2, d2, ds2, p2, q2, rfl, rfl, rfl, h2, r2⟩ := trodAll_cons r1
  obtain ⟨rfl, rfl, rfl⟩ := trodAll_nil r2
  obtain rfl : args = #[v0, v1, v2] := by cases args; simp_all
  obtain ⟨rfl, rfl⟩ := trodVars_none hV
  have k0 := h0
  have lt0 : ∀ x ∈ p0, x.block < W.heap.size := by obtain ⟨m, hm⟩ := k0; exact DataW.trod_lt m _ _ _ hm
  obtain ⟨l0, hn0, hw0, rfl⟩ := open_arrN Tryz.underlying65 Tryz.underlying5 (by kernel_rfl) (by kernel_rfl) (hval 0 65 v0 rfl rfl) h0
  obtain ⟨a1, rfl, rfl, rfl, w1⟩ := open_int Tryz.underlying26 (hval 1 26 v1 rfl rfl) h1
  have k2 := h2
  have lt2 : ∀ x ∈ p2, x.block < W.heap.size := by obtain ⟨m, hm⟩ := k2; exact DataW.trod_lt m _ _ _ hm
  obtain ⟨a2, len2, cap2, rfl⟩ := okWide_slice Tryz.underlying87 (hval 2 87 v2 rfl rfl)
  obtain ⟨l2, hl2, hc2, hm2, ho2, hr2⟩ := ToldBy.slice told90 Tryz.underlying87 (by kernel_rfl : Tryz.prog.cellsOf 90 = 4) (fun _ => rfl) h2
  clear hA0 hval0
  refine (bridgeEnds_walk hn0 hw0 w1 hl2 (Nat.le_trans hc2 hm2) ho2 hr2).mono fun e W' ⟨he, bel⟩ => ?_
  subst he
  exact ⟨_, rfl, _, _, _, [], _, [], hW', trodAll_mk1 (shut_bool Tryz.underlying4 _), (trodAll_cons_mk (Below.trod laidOut (by kernel_rfl) (of_decide_eq_true (by kernel_rfl)) k0 bel lt0) (trodAll_cons_mk (shut_int Tryz.underlying26 w1) (trodAll_cons_mk (Below.trod laidOut (by kernel_rfl) (of_decide_eq_true (by kernel_rfl)) k2 bel lt2) trodAll_mk0))), rfl, bel.frame _, fun h => by cases h⟩
theorem over : Rows.bridgeEndsRow.holds Tryz.pinned (OpenSpec.ofChange Rows.bridgeEndsSpec) :=
  OpenClaim.holds_of_wide 13 Tryz.f13 rfl rfl rfl rfl rfl rfl rfl ⟨rfl, rfl, rfl, rfl, rfl⟩ rfl rfl rfl rfl rfl (by kernel_rfl) Tryz.func13 (by kernel_rfl)
    (of_decide_eq_true (by kernel_rfl)) (by unfold Func.isWrapper; first | (rw [if_pos (by decide +kernel)]; kernel_rfl) | (rw [if_neg (by decide +kernel)]; exact ⟨rfl, rfl⟩))
    (fun os started H enc _ => lifted os started H enc)
/-- THE STATEMENT -/
theorem proved : Rows.BridgeEndsSaid := over
end Go.Proofs.YtjdnjlnfcbaokaaGreat.bridgeEnds
#print axioms Go.Proofs.YtjdnjlnfcbaokaaGreat.bridgeEnds.proved

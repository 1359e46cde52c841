/-
  SPECS, 15: route.Check of the statements' configurations; leg.New; the statements' anchor (awake). Own work.
-/
import Derived.Test.YtjdnjlnfcbaokaaGreatSp14
set_option linter.unusedVariables false
set_option linter.unusedSimpArgs false
set_option maxRecDepth 20000
namespace Go.Proofs.YtjdnjlnfcbaokaaGreat
open Go Go.Lg
variable {α β σ τ : Type} {ρ : Hp} {L M : As} {K : Nat}

/-! ### 1. route.Check -/
theorem chk_true {c : Prop} {f : G β} (h : c) : chk c f = f := by
  apply G.ext; intro w Q
  exact ⟨fun q => q.2, fun q => ⟨h, q⟩⟩
theorem check1_eq (a lo hi : Int) : route_Check_1 K a lo hi = ret (decide (lo ≤ a) && decide (a ≤ hi)) := by
  unfold route_Check_1
  cases decide (lo ≤ a) <;> rfl
theorem loopG_succ {S : Type} {step : (S → G α) → S → G α} {k : Nat} {s : S} : loopG step (k + 1) s = step (loopG step k) s := rfl
def inT (n : Int) : Bool := decide (1 ≤ n) && decide (n ≤ 1073741824)
theorem checkT_eq (hK : KBig K) (a b c d : Int) (x : Bool) : loopG (route_Check_l0 K a b c d) K (x, 0) = ret (x && inT a && inT b && inT c && inT d) := by
  obtain ⟨k, hk⟩ : ∃ k, K = k + 5 := ⟨K - 5, by unfold KBig at hK; omega⟩
  have step : ∀ (y : Bool) (j : Nat) (n : Nat) (hj : j < 4), loopG (route_Check_l0 K a b c d) (n + 1) (y, (j : Int)) = loopG (route_Check_l0 K a b c d) n (y && inT (nth [a, b, c, d] (j : Int)), ((j + 1 : Nat) : Int)) := by
    intro y j n hj
    rw [loopG_succ]
    unfold route_Check_l0
    have hd : decide ((j : Int) < 4) = true := by simp; omega
    have hw : IntKind.wrap .i64 ((j : Int) + 1) = ((j + 1 : Nat) : Int) := by rw [w64 (by omega) (by omega)]; omega
    simp only [hd, if_true, hw]
    rw [chk_true (by omega)]
    cases y with
    | true => simp only [if_true, check1_eq, bnd_ret, Bool.true_and]; rfl
    | false => rfl
  have last : ∀ (y : Bool) (n : Nat), loopG (route_Check_l0 K a b c d) (n + 1) (y, ((4 : Nat) : Int)) = ret y := by
    intro y n
    rw [loopG_succ]
    rfl
  have e0 : loopG (route_Check_l0 K a b c d) K (x, 0) = loopG (route_Check_l0 K a b c d) (k + 1 + 1 + 1 + 1 + 1) (x, ((0 : Nat) : Int)) := by rw [hk]; rfl
  rw [e0, step _ 0 _ (by omega), step _ 1 _ (by omega), step _ 2 _ (by omega), step _ 3 _ (by omega), last]
  rfl
def rtC : List Value := [.string (ByteArray.mk #[47]), .string (ByteArray.mk #[]), .string (ByteArray.mk #[120])]
def rt0 : Tapi_Route := ⟨ByteArray.mk #[47], ByteArray.mk #[], ByteArray.mk #[120]⟩
theorem vis_eq (hK : KBig K) (b : UInt8) (h : decide ((bt (ByteArray.mk #[b]) 0) ≤ (32 : Int)) = false) (h2 : decide ((126 : Int) < (bt (ByteArray.mk #[b]) 0)) = false) : route_visible K (ByteArray.mk #[b]) = ret true := by
  obtain ⟨k, rfl⟩ : ∃ k, K = k + 1 + 1 := ⟨K - 2, by unfold KBig at hK; omega⟩
  unfold route_visible
  have hs : sEq (ByteArray.mk #[b]) (ByteArray.mk #[]) = false := by
    have e1 : ByteArray.mk #[b] = ba [b] := rfl
    rw [e1, ba_nil, sEq_ba]; rfl
  have e1 : loopG (route_visible_l0 (k + 1 + 1) (ByteArray.mk #[b])) (k + 1 + 1) 0 = ret (.inl ()) := by
    have e2 : loopG (route_visible_l0 (k + 1 + 1) (ByteArray.mk #[b])) (k + 1) 1 = ret (.inl ()) := by
      rw [loopG_succ]; rfl
    rw [loopG_succ]
    unfold route_visible_l0
    have hz : (ByteArray.mk #[b]).size = 1 := rfl
    rw [hz]
    have hd : decide ((0 : Int) < ((1 : Nat) : Int)) = true := rfl
    rw [hd, h, h2]
    simp only [if_true, Bool.false_eq_true, if_false]
    rw [chk_true (by omega), chk_true (by omega)]
    simp only [bnd_ret, Bool.false_eq_true, if_false]
    exact e2
  rw [e1, bnd_ret]
  simp only [sumK_inl, hs]; rfl
theorem idxB_eq : internal_stringslite_Index K (ByteArray.mk #[47]) (ByteArray.mk #[63]) = ret (-1 : Int) := by
  have h1 : sEq (ByteArray.mk #[63]) (ByteArray.mk #[47]) = false := by
    have e1 : ByteArray.mk #[63] = ba [63] := rfl
    have e2 : ByteArray.mk #[47] = ba [47] := rfl
    rw [e1, e2, sEq_ba]; rfl
  unfold internal_stringslite_Index
  have h2 : (ByteArray.mk #[63]).size = 1 := rfl
  have h3 : (((1 : Nat) : Int) == 0) = false := rfl
  have h4 : (((1 : Nat) : Int) == 1) = true := rfl
  simp only [h1, h2, h3, Lg.lt, Bool.false_eq_true, if_false, bnd_ret, h4, if_true]
  rw [chk_true (by omega)]
  have h5 : bt (ByteArray.mk #[63]) 0 = 63 := rfl
  rw [h5]
  unfold internal_stringslite_IndexByte
  have h6 : Lib.indexByte (ByteArray.mk #[47]).data.toList (63 : Int).toNat.toUInt8 = -1 := by decide +kernel
  rw [h6]; rfl
theorem right_eq (hK : KBig K) : Tri ρ L (route_right K rt0) (fun r L' => r = true ∧ L' = L) := by
  unfold route_right
  refine Tri.new fun b => ?_
  have c0 : ∀ {L' : As}, Cell ρ (pts b (Agg.cells rt0) :: L') ⟨b, 0, none⟩ (.string (ByteArray.mk #[47])) := Cell.here (i := 0) rfl
  refine Tri.ldS c0 ?_
  rw [vis_eq hK 47 (by decide +kernel) (by decide +kernel), bnd_ret]
  simp only [if_true, bnd_ret, bnd_bnd, bnd_ite, bnd_lt, bnd_ldB, bnd_ldI, bnd_ldS, bnd_ldP, bnd_ldSl, bnd_ldG, bnd_nn, bnd_ixA, bnd_st, bnd_drw, bnd_strOf, bnd_new, bnd_slS, bnd_slA, bnd_slStr, bnd_app, bnd_appS, bnd_appT, bnd_appZ, bnd_chk, bnd_mk, bnd_cpy, bnd_wld, bnd_agr, bnd_bytesOf, bnd_drw2, bnd_mrk, bnd_fail, sumK_inl, sumK_inr, bnd_inr]
  refine Tri.ldS c0 (Tri.chk (by constructor <;> decide +kernel) ?_)
  have h5 : (bt (ByteArray.mk #[47]) 0 == (47 : Int)) = true := by decide +kernel
  rw [h5]
  simp only [if_true, bnd_ret, bnd_bnd, bnd_ite, bnd_lt, bnd_ldB, bnd_ldI, bnd_ldS, bnd_ldP, bnd_ldSl, bnd_ldG, bnd_nn, bnd_ixA, bnd_st, bnd_drw, bnd_strOf, bnd_new, bnd_slS, bnd_slA, bnd_slStr, bnd_app, bnd_appS, bnd_appT, bnd_appZ, bnd_chk, bnd_mk, bnd_cpy, bnd_wld, bnd_agr, bnd_bytesOf, bnd_drw2, bnd_mrk, bnd_fail, sumK_inl, sumK_inr, bnd_inr]
  refine Tri.ldS c0 ?_
  have hc : strings_Contains K (ByteArray.mk #[47]) (ByteArray.mk #[63]) = ret false := by
    unfold strings_Contains strings_Index
    rw [idxB_eq]; rfl
  rw [hc, bnd_ret]
  simp only [Bool.not_false, if_true, bnd_ret, bnd_bnd, bnd_ite, bnd_lt, bnd_ldB, bnd_ldI, bnd_ldS, bnd_ldP, bnd_ldSl, bnd_ldG, bnd_nn, bnd_ixA, bnd_st, bnd_drw, bnd_strOf, bnd_new, bnd_slS, bnd_slA, bnd_slStr, bnd_app, bnd_appS, bnd_appT, bnd_appZ, bnd_chk, bnd_mk, bnd_cpy, bnd_wld, bnd_agr, bnd_bytesOf, bnd_drw2, bnd_mrk, bnd_fail, sumK_inl, sumK_inr, bnd_inr]
  refine Tri.ldS (Cell.here (i := 1) rfl) ?_
  have h6 : sEq rt0.Protocol (ByteArray.mk #[]) = true := by
    have e1 : rt0.Protocol = ba [] := rfl
    rw [e1, ba_nil, sEq_ba]; rfl
  rw [h6]
  simp only [if_true, bnd_ret, bnd_bnd, bnd_ite, bnd_lt, bnd_ldB, bnd_ldI, bnd_ldS, bnd_ldP, bnd_ldSl, bnd_ldG, bnd_nn, bnd_ixA, bnd_st, bnd_drw, bnd_strOf, bnd_new, bnd_slS, bnd_slA, bnd_slStr, bnd_app, bnd_appS, bnd_appT, bnd_appZ, bnd_chk, bnd_mk, bnd_cpy, bnd_wld, bnd_agr, bnd_bytesOf, bnd_drw2, bnd_mrk, bnd_fail, sumK_inl, sumK_inr, bnd_inr]
  refine Tri.ldS (v := ByteArray.mk #[120]) (Cell.here (i := 2) rfl) ?_
  rw [vis_eq hK 120 (by decide +kernel) (by decide +kernel), bnd_ret]
  exact Tri.drop (Tri.ret ⟨rfl, rfl⟩)
theorem contRt_spec (hK : KBig K) {s : Sl} (hs : s.n = 0) : Tri ρ L (slices_Contains_Route K s rt0) (fun r L' => r = false ∧ L' = L) := by
  unfold slices_Contains_Route slices_Index_Route
  obtain ⟨k, hk⟩ : ∃ k, K = k + 1 := ⟨K - 1, by unfold KBig at hK; omega⟩
  refine Tri.new fun b => ?_
  refine Tri.ldG rt0 rfl (Cells.here (i := 0) (by simp [Agg.cells]) rfl) ?_
  simp only [bnd_ret, bnd_bnd, bnd_ite, bnd_lt, bnd_ldB, bnd_ldI, bnd_ldS, bnd_ldP, bnd_ldSl, bnd_ldG, bnd_nn, bnd_ixA, bnd_st, bnd_drw, bnd_strOf, bnd_new, bnd_slS, bnd_slA, bnd_slStr, bnd_app, bnd_appS, bnd_appT, bnd_appZ, bnd_chk, bnd_mk, bnd_cpy, bnd_wld, bnd_agr, bnd_bytesOf, bnd_drw2, bnd_mrk, bnd_fail, sumK_inl, sumK_inr, bnd_inr]
  refine Tri.new fun b2 => ?_
  have e1 : loopG (slices_Index_Route_l0 K s ⟨b2, 0, none⟩) K 0 = ret (.inl ()) := by
    have e2 : ∀ k, loopG (slices_Index_Route_l0 K s ⟨b2, 0, none⟩) (k + 1) 0 = ret (.inl ()) := by
      intro k
      rw [loopG_succ]
      unfold slices_Index_Route_l0
      rw [hs]; rfl
    have := e2 k
    rwa [← hk] at this
  rw [e1, bnd_ret]
  simp only [sumK_inl, bnd_ret]
  exact Tri.lt (Tri.drop (Tri.drop (Tri.ret ⟨rfl, rfl⟩)))
theorem routeCheck_spec {c : Tapi_Config} {b : Nat} (hK : KBig K) (hr : c.Routes = ⟨some ⟨b, 0, none⟩, 1, 1⟩) (ho : c.Origins = Sl.nil) (h1 : 1 ≤ c.Table ∧ c.Table ≤ 64) (h2 : 1 ≤ c.Message ∧ c.Message ≤ 65536) (h3 : 1 ≤ c.Frame ∧ c.Frame ≤ 65536)
    (h4 : 1 ≤ c.Count ∧ c.Count ≤ 1024) (h5 : c.Message ≤ c.Bytes ∧ c.Bytes ≤ 4194304) (h6 : 1 ≤ c.Out ∧ c.Out ≤ 65536) (h7 : inT c.Shake = true) (h8 : inT c.Idle = true) (h9 : inT c.Pong = true) (h10 : inT c.Close = true) :
    Tri ρ (pts b rtC :: L) (route_Check K c) (fun r L' => r = 0 ∧ L' = pts b rtC :: L) := by
  have dd : ∀ {a lo hi : Int}, lo ≤ a ∧ a ≤ hi → (decide (lo ≤ a) && decide (a ≤ hi)) = true := fun h => by simp [h.1, h.2]
  unfold route_Check
  simp only [check1_eq, bnd_ret]
  refine Tri.new fun x1 => ?_
  refine Tri.ldSl c.Routes (Cell.here (i := 0) rfl) ?_
  have e1 : (c.Routes.n : Int) = 1 := by rw [hr]; rfl
  have e2 : (c.Origins.n : Int) = 0 := by rw [ho]; rfl
  rw [e1]
  have t1 : (decide ((1 : Int) ≤ 1) && decide ((1 : Int) ≤ 16)) = true := rfl
  rw [t1]
  simp only [if_true, bnd_ret, bnd_bnd, bnd_ite, bnd_lt, bnd_ldB, bnd_ldI, bnd_ldS, bnd_ldP, bnd_ldSl, bnd_ldG, bnd_nn, bnd_ixA, bnd_st, bnd_drw, bnd_strOf, bnd_new, bnd_slS, bnd_slA, bnd_slStr, bnd_app, bnd_appS, bnd_appT, bnd_appZ, bnd_chk, bnd_mk, bnd_cpy, bnd_wld, bnd_agr, bnd_bytesOf, bnd_drw2, bnd_mrk, bnd_fail, sumK_inl, sumK_inr, bnd_inr]
  refine Tri.ldSl c.Origins (Cell.here (i := 1) rfl) ?_
  have t2 : decide ((c.Origins.n : Int) ≤ 16) = true := by rw [e2]; rfl
  rw [t2]
  simp only [if_true, bnd_ret, bnd_bnd, bnd_ite, bnd_lt, bnd_ldB, bnd_ldI, bnd_ldS, bnd_ldP, bnd_ldSl, bnd_ldG, bnd_nn, bnd_ixA, bnd_st, bnd_drw, bnd_strOf, bnd_new, bnd_slS, bnd_slA, bnd_slStr, bnd_app, bnd_appS, bnd_appT, bnd_appZ, bnd_chk, bnd_mk, bnd_cpy, bnd_wld, bnd_agr, bnd_bytesOf, bnd_drw2, bnd_mrk, bnd_fail, sumK_inl, sumK_inr, bnd_inr]
  refine Tri.ldI (v := c.Table) (Cell.here (i := 2) rfl) ?_
  rw [dd h1]
  simp only [if_true, bnd_ret, bnd_bnd, bnd_ite, bnd_lt, bnd_ldB, bnd_ldI, bnd_ldS, bnd_ldP, bnd_ldSl, bnd_ldG, bnd_nn, bnd_ixA, bnd_st, bnd_drw, bnd_strOf, bnd_new, bnd_slS, bnd_slA, bnd_slStr, bnd_app, bnd_appS, bnd_appT, bnd_appZ, bnd_chk, bnd_mk, bnd_cpy, bnd_wld, bnd_agr, bnd_bytesOf, bnd_drw2, bnd_mrk, bnd_fail, sumK_inl, sumK_inr, bnd_inr]
  refine Tri.ldI (v := c.Message) (Cell.here (i := 3) rfl) ?_
  rw [dd h2]
  simp only [if_true, bnd_ret, bnd_bnd, bnd_ite, bnd_lt, bnd_ldB, bnd_ldI, bnd_ldS, bnd_ldP, bnd_ldSl, bnd_ldG, bnd_nn, bnd_ixA, bnd_st, bnd_drw, bnd_strOf, bnd_new, bnd_slS, bnd_slA, bnd_slStr, bnd_app, bnd_appS, bnd_appT, bnd_appZ, bnd_chk, bnd_mk, bnd_cpy, bnd_wld, bnd_agr, bnd_bytesOf, bnd_drw2, bnd_mrk, bnd_fail, sumK_inl, sumK_inr, bnd_inr]
  refine Tri.ldI (v := c.Frame) (Cell.here (i := 4) rfl) ?_
  rw [dd h3]
  simp only [if_true, bnd_ret, bnd_bnd, bnd_ite, bnd_lt, bnd_ldB, bnd_ldI, bnd_ldS, bnd_ldP, bnd_ldSl, bnd_ldG, bnd_nn, bnd_ixA, bnd_st, bnd_drw, bnd_strOf, bnd_new, bnd_slS, bnd_slA, bnd_slStr, bnd_app, bnd_appS, bnd_appT, bnd_appZ, bnd_chk, bnd_mk, bnd_cpy, bnd_wld, bnd_agr, bnd_bytesOf, bnd_drw2, bnd_mrk, bnd_fail, sumK_inl, sumK_inr, bnd_inr]
  refine Tri.ldI (v := c.Count) (Cell.here (i := 5) rfl) ?_
  rw [dd h4]
  simp only [if_true, bnd_ret, bnd_bnd, bnd_ite, bnd_lt, bnd_ldB, bnd_ldI, bnd_ldS, bnd_ldP, bnd_ldSl, bnd_ldG, bnd_nn, bnd_ixA, bnd_st, bnd_drw, bnd_strOf, bnd_new, bnd_slS, bnd_slA, bnd_slStr, bnd_app, bnd_appS, bnd_appT, bnd_appZ, bnd_chk, bnd_mk, bnd_cpy, bnd_wld, bnd_agr, bnd_bytesOf, bnd_drw2, bnd_mrk, bnd_fail, sumK_inl, sumK_inr, bnd_inr]
  refine Tri.ldI (v := c.Bytes) (Cell.here (i := 6) rfl) (Tri.ldI (v := c.Message) (Cell.here (i := 3) rfl) ?_)
  rw [dd h5]
  simp only [if_true, bnd_ret, bnd_bnd, bnd_ite, bnd_lt, bnd_ldB, bnd_ldI, bnd_ldS, bnd_ldP, bnd_ldSl, bnd_ldG, bnd_nn, bnd_ixA, bnd_st, bnd_drw, bnd_strOf, bnd_new, bnd_slS, bnd_slA, bnd_slStr, bnd_app, bnd_appS, bnd_appT, bnd_appZ, bnd_chk, bnd_mk, bnd_cpy, bnd_wld, bnd_agr, bnd_bytesOf, bnd_drw2, bnd_mrk, bnd_fail, sumK_inl, sumK_inr, bnd_inr]
  refine Tri.ldI (v := c.Out) (Cell.here (i := 7) rfl) ?_
  rw [dd h6]
  refine Tri.ldI (v := c.Shake) (Cell.here (i := 8) rfl) (Tri.ldI (v := c.Idle) (Cell.here (i := 9) rfl) (Tri.ldI (v := c.Pong) (Cell.here (i := 10) rfl) (Tri.ldI (v := c.Close) (Cell.here (i := 11) rfl) ?_)))
  rw [checkT_eq hK, bnd_ret, h7, h8, h9, h10]
  refine Tri.ldSl c.Routes (Cell.here (i := 0) rfl) ?_
  refine Tri.val true ?_ ?_
  · obtain ⟨k, hk⟩ : ∃ k, K = k + 1 + 1 := ⟨K - 2, by unfold KBig at hK; omega⟩
    have e3 : loopG (route_Check_l1 K c.Routes ⟨x1, 0, none⟩) K ((true && true && true && true && true), (0 : Int)) = route_Check_l1 K c.Routes ⟨x1, 0, none⟩ (route_Check_l1 K c.Routes ⟨x1, 0, none⟩ (loopG (route_Check_l1 K c.Routes ⟨x1, 0, none⟩) k)) (true, 0) := by
      generalize hM : K = M at hk ⊢
      subst hk
      rw [loopG_succ]; rfl
    rw [e3]
    have e4 : ∀ (ag : (Bool × Int) → G Bool) (y : Bool), route_Check_l1 K c.Routes ⟨x1, 0, none⟩ ag (y, 1) = ret y := by
      intro ag y
      unfold route_Check_l1
      rw [e1]; rfl
    conv in route_Check_l1 K c.Routes ⟨x1, 0, none⟩ _ (true, 0) => unfold route_Check_l1
    rw [e1]
    have t3 : decide ((0 : Int) < 1) = true := rfl
    simp only [t3, if_true]
    have rr : Rd ρ (pts x1 (Agg.cells c) :: pts b rtC :: L) c.Routes 3 rtC := (Rd.pts (o := 0) (by rw [hr]) (by rw [hr]; simp [rtC]) (by rw [hr]; rfl)).tail
    refine Tri.ixA 0 rr rfl (by rw [hr]; exact Nat.zero_lt_one) (by simp [rtC]) fun x109 h109 => ?_
    refine Tri.ldG rt0 rfl (h109.cells rr (by rw [hr]; exact Nat.zero_lt_one) rfl rfl) ?_
    refine Tri.new fun x111 => ?_
    refine Tri.stB (l := rtC) (by rfl) (by simp [rtC]) rfl ?_
    have e0 : splice [.string (ByteArray.mk #[]), .string (ByteArray.mk #[]), .string (ByteArray.mk #[])] 0 rtC = rtC := rfl
    rw [e0]
    simp only [bnd_ret, bnd_bnd, bnd_ite, bnd_lt, bnd_ldB, bnd_ldI, bnd_ldS, bnd_ldP, bnd_ldSl, bnd_ldG, bnd_nn, bnd_ixA, bnd_st, bnd_drw, bnd_strOf, bnd_new, bnd_slS, bnd_slA, bnd_slStr, bnd_app, bnd_appS, bnd_appT, bnd_appZ, bnd_chk, bnd_mk, bnd_cpy, bnd_wld, bnd_agr, bnd_bytesOf, bnd_drw2, bnd_mrk, bnd_fail, sumK_inl, sumK_inr, bnd_inr]
    refine Tri.drw (Tri.ldG rt0 rfl (Cells.here (i := 0) (by simp [Agg.cells, rtC, rt0]) rfl) ?_)
    refine Tri.bnd (right_eq hK) ?_
    rintro _ _ ⟨rfl, rfl⟩
    simp only [if_true, bnd_ret, bnd_bnd, bnd_ite, bnd_lt, bnd_ldB, bnd_ldI, bnd_ldS, bnd_ldP, bnd_ldSl, bnd_ldG, bnd_nn, bnd_ixA, bnd_st, bnd_drw, bnd_strOf, bnd_new, bnd_slS, bnd_slA, bnd_slStr, bnd_app, bnd_appS, bnd_appT, bnd_appZ, bnd_chk, bnd_mk, bnd_cpy, bnd_wld, bnd_agr, bnd_bytesOf, bnd_drw2, bnd_mrk, bnd_fail, sumK_inl, sumK_inr, bnd_inr]
    refine Tri.ldSl c.Routes (Cell.here (i := 0) rfl).tail ?_
    refine Tri.slS 0 0 c.Routes.c (by rfl) (by rfl) (by rfl) (by omega) (by omega) (Nat.le_refl _) fun x122 h122 _ => ?_
    refine Tri.ldG rt0 rfl (Cells.here (i := 0) (by simp [Agg.cells, rtC, rt0]) rfl) ?_
    refine Tri.bnd (contRt_spec hK (by rw [h122.n])) ?_
    rintro _ _ ⟨rfl, rfl⟩
    have hw : IntKind.wrap .i64 ((0 : Int) + 1) = 1 := by decide +kernel
    rw [hw]
    simp only [Bool.not_false, Lg.lt, e4, bnd_ret]
    exact Tri.drop (Tri.ret ⟨rfl, rfl⟩)
  · simp only [Bool.not_true, Bool.false_eq_true, if_false]
    exact Tri.drop (Tri.ret ⟨rfl, rfl⟩)

/-! ### 2. New -/
def Lm.new (message frame out : Nat) (masked : Bool) (draw : Nat) : Lm :=
  ⟨message, frame, out, !masked, draw, ⟨masked, max message 125, [], 0⟩, ⟨message, 0, [], Ut.zero, false, 0⟩, [], [], [], [], false, false, 0⟩
theorem new_ok {message frame out draw : Nat} {masked : Bool} (h1 : 0 < message ∧ message ≤ 65536) (h2 : 0 < frame ∧ frame ≤ 65536) (hd : draw < 4294967296) : (Lm.new message frame out masked draw).Ok ∧ (Lm.new message frame out masked draw).Fit := by
  refine ⟨⟨h1, h2, rfl, rfl, hd, ?_, ?_, ?_⟩, ⟨?_, ?_, ?_, ?_, ?_, ?_, ?_⟩⟩ <;> simp [Lm.new, cnt]
theorem legNewS {c : Tapi_Config} {message frame out draw : Nat} {masked : Bool} (hK : KBig K) (hc : ∀ {L' : As}, Tri ρ (L' ++ L) (route_Check K c) (fun r L'' => r = 0 ∧ L'' = L' ++ L)) (h1 : 0 < message ∧ message ≤ 65536) (h2 : 0 < frame ∧ frame ≤ 65536) (h3 : 0 < out ∧ out ≤ 65536) (hd : draw < 4294967296)
    (e1 : c.Message = (message : Int)) (e2 : c.Frame = (frame : Int)) (e3 : c.Out = (out : Int)) :
    Tri ρ L (leg_New K c masked draw) (fun r L' => ∃ a, r = (some ⟨a, 0, none⟩, 0) ∧ L' = legI a c (Lm.new message frame out masked draw) :: L) := by
  unfold leg_New
  refine Tri.new fun x1 => ?_
  have cc : ∀ {L' : As}, Cells ρ (pts x1 (Agg.cells c) :: L') ⟨x1, 0, none⟩ (Agg.cells c) := Cells.here (i := 0) (by simp) (by rfl)
  refine Tri.ldG c rfl cc ?_
  refine Tri.bnd (hc (L' := [pts x1 (Agg.cells c)])) ?_
  rintro _ _ ⟨rfl, rfl⟩
  have hd0 : ((0 : Int) != 0) = false := rfl
  rw [hd0]
  simp only [Bool.false_eq_true, if_false, List.cons_append, List.nil_append]
  refine Tri.ldG c rfl cc ?_
  refine Tri.new fun x5 => ?_
  refine Tri.ldI (v := c.Message) (Cell.here (i := 3) rfl).tail ?_
  have em : (if c.Message < (125 : Int) then (125 : Int) else c.Message) = ((max message 125 : Nat) : Int) := by rw [e1]; split <;> omega
  rw [em]
  refine Tri.bnd (stream_New_spec (by omega) (by omega)) ?_
  rintro _ _ ⟨si, rfl, rfl⟩
  refine Tri.pick 1 rfl (Tri.stB (i := 12) (l := [.pointer (some ⟨si, 0, none⟩)]) (by rfl) (by simp [Agg.cells]) rfl ?_)
  refine Tri.ldI (v := c.Message) (Cell.here (i := 3) rfl).tail.tail ?_
  rw [e1]
  refine Tri.bnd (msg_New_spec (by omega) (by omega)) ?_
  rintro _ _ ⟨mi, rfl, rfl⟩
  refine Tri.pick 1 rfl (Tri.stB (i := 13) (l := [.pointer (some ⟨mi, 0, none⟩)]) (by rfl) (by simp [Agg.cells, splice]) rfl ?_)
  refine Tri.ldI (v := c.Out) (Cell.here (i := 7) rfl).tail.tail.tail ?_
  rw [e3]
  refine Tri.bnd (ring_New_spec h3.1 h3.2) ?_
  rintro _ _ ⟨ri, rfl, rfl⟩
  refine Tri.pick 1 rfl (Tri.stB (i := 14) (l := [.pointer (some ⟨ri, 0, none⟩)]) (by rfl) (by simp [Agg.cells, splice]) rfl ?_)
  refine Tri.order [4] rfl (Tri.drop ?_)
  refine Tri.nilRow (sz := 1) (Tri.nilRow (sz := 8) (Tri.nilRow (sz := 8) ?_))
  refine Tri.order [3, 3, 2, 0, 0, 1, 0] rfl ?_
  obtain ⟨q1, q2⟩ := new_ok (out := out) (masked := masked) h1 h2 hd
  have e9 : ∀ T : Tleg_Leg, T = ⟨c.Routes, c.Origins, c.Table, (message : Int), c.Frame, c.Count, c.Bytes, (out : Int), c.Shake, c.Idle, c.Pong, c.Close, none, none, none, Sl.nil, Sl.nil, Sl.nil, !masked, draw, false, false, 0⟩ →
      splice (splice (splice (Agg.cells T) 12 [.pointer (some ⟨si, 0, none⟩)]) 13 [.pointer (some ⟨mi, 0, none⟩)]) 14 [.pointer (some ⟨ri, 0, none⟩)] = legC c (Lm.new message frame out masked draw) si mi ri Sl.nil Sl.nil Sl.nil := by
    rintro T rfl
    unfold legC
    rw [e1, e3]; rfl
  rw [e9 _ rfl]
  exact legClose (x := Lm.new message frame out masked draw) (tl := Sl.nil) (ct := Sl.nil) (rs := Sl.nil) q1 ⟨e1, e2, e3⟩ rfl rfl rfl (Tri.ret ⟨x5, rfl, rfl⟩)
def cfg0 (b m s o : Nat) : Tapi_Config := ⟨⟨some ⟨b, 0, none⟩, 1, 1⟩, Sl.nil, 4, ((1 + m : Nat) : Int), ((1 + s : Nat) : Int), 3, 300, ((1 + o : Nat) : Int), 5, 9, 3, 4⟩
theorem config_spec {m s o : Nat} (hm : m < 256) (hs : s < 256) (ho : o < 256) : Tri ρ L (law16_Config K m s o) (fun r L' => ∃ b, r = cfg0 b m s o ∧ L' = pts b rtC :: L) := by
  have e : ∀ n : Nat, n < 256 → IntKind.wrap .i64 ((1 : Int) + IntKind.wrap .i64 (n : Int)) = ((1 + n : Nat) : Int) := fun n hn => by
    rw [w64 (x := (n : Int)) (by omega) (by omega), w64 (by omega) (by omega)]; omega
  unfold law16_Config
  rw [e m hm, e s hs, e o ho]
  refine Tri.new fun x1 => Tri.new fun b => ?_
  refine Tri.pick 1 rfl (Tri.stB (l := Agg.cells (cfg0 b m s o)) (by rfl) (by simp [Agg.cells]) rfl ?_)
  refine Tri.ldG (cfg0 b m s o) rfl (Cells.here (i := 0) (by simp [Agg.cells, splice]) (by rfl)) ?_
  exact Tri.drop (Tri.ret ⟨b, rfl, rfl⟩)
theorem cfg0_check {b m s o : Nat} (hK : KBig K) (hm : m < 256) (hs : s < 256) (ho : o < 256) : Tri ρ (pts b rtC :: L) (route_Check K (cfg0 b m s o)) (fun r L' => r = 0 ∧ L' = pts b rtC :: L) := by
  refine routeCheck_spec hK rfl rfl ⟨by simp [cfg0], by simp [cfg0]⟩ ?_ ?_ ⟨by simp [cfg0], by simp [cfg0]⟩ ?_ ?_ rfl rfl rfl rfl
  · simp only [cfg0]; omega
  · simp only [cfg0]; omega
  · simp only [cfg0]; omega
  · simp only [cfg0]; omega
/-- a side over one of the statements' configurations -/
theorem new0_spec {b m s o draw : Nat} {masked : Bool} (hK : KBig K) (hm : m < 256) (hs : s < 256) (ho : o < 256) (hd : draw < 4294967296) :
    Tri ρ (pts b rtC :: L) (leg_New K (cfg0 b m s o) masked draw) (fun r L' => ∃ a, r = (some ⟨a, 0, none⟩, 0) ∧ L' = legI a (cfg0 b m s o) (Lm.new (1 + m) (1 + s) (1 + o) masked draw) :: pts b rtC :: L) := by
  refine legNewS hK ?_ (by omega) (by omega) (by omega) hd rfl rfl rfl
  intro L'
  refine Tri.perm (M := pts b rtC :: (L' ++ L)) List.perm_middle ?_
  refine Tri.post (cfg0_check hK hm hs ho) ?_
  rintro r _ ⟨h1, rfl⟩
  exact ⟨_, [], ⟨h1, rfl⟩, List.perm_middle.symm⟩
end Go.Proofs.YtjdnjlnfcbaokaaGreat

/-
  SPECS, 26: bridge: New, the statements' configurations, their anchor, an act. Own work.
-/
import Derived.Test.YtjdnjlnfcbaokaaGreatSp25
set_option linter.unusedVariables false
set_option linter.unusedSimpArgs false
set_option maxRecDepth 20000
namespace Go.Proofs.YtjdnjlnfcbaokaaGreat
open Go Go.Lg
variable {α β σ τ : Type} {ρ : Hp} {L M : As} {K : Nat}

structure CfgNum (c : Tapi_Config) (message frame out count bytes : Nat) : Prop where
  message : c.Message = (message : Int) ∧ 0 < message ∧ message ≤ 65536
  frame : c.Frame = (frame : Int) ∧ 0 < frame ∧ frame ≤ 65536
  out : c.Out = (out : Int) ∧ 0 < out ∧ out ≤ 65536
  count : c.Count = (count : Int) ∧ 0 < count ∧ count ≤ 1024
  bytes : c.Bytes = (bytes : Int) ∧ 0 < bytes ∧ bytes ≤ 4194304
def Sd.new (x : Lm) (count bytes : Nat) : Sd := ⟨x, ⟨count, bytes, []⟩, false, -1, 0, false, 0⟩
def Bm.new (message frame out count bytes draw : Nat) : Bm := ⟨Sd.new (Lm.new message frame out true draw) count bytes, Sd.new (Lm.new message frame out false draw) count bytes⟩
theorem Bm.new_ok {message frame out count bytes draw : Nat} (h1 : 0 < message ∧ message ≤ 65536) (h2 : 0 < frame ∧ frame ≤ 65536) (hd : draw < 4294967296) : (Bm.new message frame out count bytes draw).Ok ∧ (Bm.new message frame out count bytes draw).Fit := by
  obtain ⟨a1, a2⟩ := Go.Proofs.YtjdnjlnfcbaokaaGreat.new_ok (out := out) (masked := true) h1 h2 hd
  obtain ⟨b1, b2⟩ := Go.Proofs.YtjdnjlnfcbaokaaGreat.new_ok (out := out) (masked := false) h1 h2 hd
  exact ⟨⟨a1, b1⟩, ⟨a2, b2⟩⟩
theorem newG_spec {c : Tapi_Config} {b message frame out count bytes draw : Nat} {masked : Bool} (hK : KBig K) (hn : CfgNum c message frame out count bytes) (hc : ∀ {L' : As}, Tri ρ (pts b rtC :: L') (route_Check K c) (fun r L'' => r = 0 ∧ L'' = pts b rtC :: L')) (hd : draw < 4294967296) :
    Tri ρ (pts b rtC :: L) (leg_New K c masked draw) (fun r L' => ∃ a, r = (some ⟨a, 0, none⟩, 0) ∧ L' = legI a c (Lm.new message frame out masked draw) :: pts b rtC :: L) := by
  refine legNewS hK ?_ hn.message.2 hn.frame.2 hn.out.2 hd hn.message.1 hn.frame.1 hn.out.1
  intro L'
  refine Tri.perm (M := pts b rtC :: (L' ++ L)) List.perm_middle ?_
  refine Tri.post hc ?_
  rintro r _ ⟨h1, rfl⟩
  exact ⟨_, [], ⟨h1, rfl⟩, List.perm_middle.symm⟩
theorem new1_spec {c : Tapi_Config} {b x1 x3 message frame out count bytes draw : Nat} {i : Bool} {cs : List Value} (hK : KBig K) (hn : CfgNum c message frame out count bytes) (hc : ∀ {L' : As}, Tri ρ (pts b rtC :: L') (route_Check K c) (fun r L'' => r = 0 ∧ L'' = pts b rtC :: L')) (hd : draw < 4294967296) (hcs : cs.length = 26)
    {again : Int → G (Unit ⊕ (Option Addr × Int))} {s : Int} {C : Unit ⊕ (Option Addr × Int) → As → Prop} (hs : s = ix i)
    (h : ∀ lg q, Tri ρ (pts x3 (splice cs (off i) (sideC (Sd.new (Lm.new message frame out (!i) draw) count bytes) lg q)) :: pts x1 (Agg.cells c) :: pts b rtC :: legI lg c (Lm.new message frame out (!i) draw) :: queueI q ⟨count, bytes, []⟩ :: L) (again (IntKind.wrap .i64 (s + 1))) C) :
    Tri ρ (pts x3 cs :: pts x1 (Agg.cells c) :: pts b rtC :: L) (bridge_New_l0 K ⟨x1, 0, none⟩ draw ⟨x3, 0, none⟩ again s) C := by
  subst hs
  unfold bridge_New_l0
  have hd2 : decide (ix i < (2 : Int)) = true := by cases i <;> rfl
  have hi : (ix i == (0 : Int)) = !i := by cases i <;> rfl
  rw [hd2, hi]
  simp only [if_true]
  have cc : ∀ {A : Assn} {L' : As}, Cells ρ (A :: pts x1 (Agg.cells c) :: L') ⟨x1, 0, none⟩ (Agg.cells c) := (Cells.here (i := 0) (by simp) (by rfl)).tail
  refine Tri.ldG c rfl cc ?_
  refine Tri.pick 2 rfl (Tri.bnd (newG_spec hK hn hc hd) ?_)
  rintro _ _ ⟨lg, rfl, rfl⟩
  have hd0 : ((0 : Int) != 0) = false := rfl
  rw [hd0]
  simp only [Bool.false_eq_true, if_false]
  refine Tri.ldI (v := c.Count) (Cell.here (i := 5) rfl).tail.tail.tail (Tri.ldI (v := c.Bytes) (Cell.here (i := 6) rfl).tail.tail.tail ?_)
  rw [hn.count.1, hn.bytes.1]
  refine Tri.bnd (queue_New_spec hn.count.2.1 hn.count.2.2 hn.bytes.2.1 hn.bytes.2.2) ?_
  rintro _ _ ⟨q, rfl, rfl⟩
  refine Tri.chk (ix_ok i) ?_
  rw [ofs0]
  refine Tri.pick 3 rfl (Tri.stB (i := off i) (l := sideC (Sd.new (Lm.new message frame out (!i) draw) count bytes) lg q) (by rfl) (by rw [hcs]; have := off_le i; simp [sideC]; omega) rfl ?_)
  exact Tri.order [0, 3, 2, 1, 0] rfl (h lg q)
theorem bridge_New_spec {c : Tapi_Config} {b message frame out count bytes draw : Nat} (hK : KBig K) (hn : CfgNum c message frame out count bytes) (hc : ∀ {L' : As}, Tri ρ (pts b rtC :: L') (route_Check K c) (fun r L'' => r = 0 ∧ L'' = pts b rtC :: L')) (hd : draw < 4294967296) :
    Tri ρ (pts b rtC :: L) (bridge_New K c draw) (fun r L' => ∃ p, r = (some ⟨p, 0, none⟩, 0) ∧ L' = brI p c (Bm.new message frame out count bytes draw) :: pts b rtC :: L) := by
  unfold bridge_New
  refine Tri.new fun x1 => Tri.ldG c rfl (Cells.here (i := 0) (by simp) (by rfl)) (Tri.new fun x3 => ?_)
  generalize hcs0 : Agg.cells (Tbridge_Bridge.mk c.Routes c.Origins c.Table c.Message c.Frame c.Count c.Bytes c.Out c.Shake c.Idle c.Pong c.Close none none false (0 : Int) (0 : Int) false (0 : Int) none none false (0 : Int) (0 : Int) false (0 : Int)) = cs0
  have hl0 : cs0.length = 26 := by rw [← hcs0]; rfl
  have ht0 : cs0.take 12 = Agg.cells c := by rw [← hcs0]; rfl
  obtain ⟨k, hk⟩ : ∃ k, K = k + 1 + 1 + 1 := ⟨K - 3, by unfold KBig at hK; omega⟩
  have e : ∀ M, M = K → loopG (bridge_New_l0 K ⟨x1, 0, none⟩ draw ⟨x3, 0, none⟩) M 0 = bridge_New_l0 K ⟨x1, 0, none⟩ draw ⟨x3, 0, none⟩ (bridge_New_l0 K ⟨x1, 0, none⟩ draw ⟨x3, 0, none⟩ (bridge_New_l0 K ⟨x1, 0, none⟩ draw ⟨x3, 0, none⟩ (loopG (bridge_New_l0 K ⟨x1, 0, none⟩ draw ⟨x3, 0, none⟩) k))) 0 := by
    intro M hM
    rw [hk] at hM
    generalize K = K' at *
    subst hM
    rfl
  rw [e K rfl]
  refine Tri.bndS (D := fun _ L' => L' = brI x3 c (Bm.new message frame out count bytes draw) :: pts b rtC :: L) ?_ ?_
  · refine new1_spec (i := false) hK hn hc hd hl0 rfl fun l0 q0 => ?_
    have w1 : IntKind.wrap .i64 ((0 : Int) + 1) = 1 := by decide +kernel
    rw [w1]
    refine new1_spec (i := true) hK hn hc hd (by rw [splice_length (by rw [hl0]; simp [off, sideC])]; exact hl0) rfl fun l1 q1 => ?_
    have w2 : IntKind.wrap .i64 ((1 : Int) + 1) = 2 := by decide +kernel
    rw [w2]
    conv in bridge_New_l0 K _ _ _ _ 2 => unfold bridge_New_l0
    refine Tri.order [1] rfl (Tri.drop ?_)
    refine Tri.order [0, 3, 1, 2, 1] rfl ?_
    have hbr : splice (splice cs0 (off false) (sideC (Sd.new (Lm.new message frame out (!false) draw) count bytes) l0 q0)) (off true) (sideC (Sd.new (Lm.new message frame out (!true) draw) count bytes) l1 q1) = brC c (Bm.new message frame out count bytes draw) (fun i => if i then l1 else l0) (fun i => if i then q1 else q0) := by
      rw [← hcs0]; rfl
    exact brClose2 (x := Bm.new message frame out count bytes draw) (l := fun i => if i then l1 else l0) (q := fun i => if i then q1 else q0) false hbr rfl rfl rfl rfl (Tri.ret rfl)
  · rintro _ _ rfl
    exact Tri.ret ⟨x3, rfl, rfl⟩
/-! ### the statements' configurations -/
def cfg5 (b m s o n y : Nat) : Tapi_Config := { cfg0 b m s o with Count := ((1 + n % 8 : Nat) : Int), Bytes := ((1 + m + y : Nat) : Int) }
theorem cfg5_num {b m s o n y : Nat} (hm : m < 256) (hs : s < 256) (ho : o < 256) (hy : y < 256) : CfgNum (cfg5 b m s o n y) (1 + m) (1 + s) (1 + o) (1 + n % 8) (1 + m + y) :=
  ⟨⟨rfl, by omega, by omega⟩, ⟨rfl, by omega, by omega⟩, ⟨rfl, by omega, by omega⟩, ⟨rfl, by omega, by omega⟩, ⟨rfl, by omega, by omega⟩⟩
theorem cfg5_check {b m s o n y : Nat} (hK : KBig K) (hm : m < 256) (hs : s < 256) (ho : o < 256) (hy : y < 256) : Tri ρ (pts b rtC :: L) (route_Check K (cfg5 b m s o n y)) (fun r L' => r = 0 ∧ L' = pts b rtC :: L) := by
  refine routeCheck_spec hK rfl rfl ⟨by simp [cfg5, cfg0], by simp [cfg5, cfg0]⟩ ?_ ?_ ?_ ?_ ?_ rfl rfl rfl rfl
  · simp only [cfg5, cfg0]; omega
  · simp only [cfg5, cfg0]; omega
  · simp only [cfg5, cfg0]; omega
  · simp only [cfg5, cfg0]; omega
  · simp only [cfg5, cfg0]; omega
theorem cfgSplice12 (x : Tapi_Config) : ∀ cs : List Value, cs.length = 12 → splice cs 0 (Agg.cells x) = Agg.cells x := by
  intro cs hc
  unfold splice
  rw [List.take_zero, List.nil_append, List.drop_eq_nil_of_le (by rw [hc]; simp [Agg.cells]), List.append_nil]
theorem config5_spec {k : A5u8} {m s o n y : Nat} (e0 : k.e0 = (m : Int)) (e1 : k.e1 = (s : Int)) (e2 : k.e2 = (o : Int)) (e3 : k.e3 = (n : Int)) (e4 : k.e4 = (y : Int)) (hm : m < 256) (hs : s < 256) (ho : o < 256) (hn : n < 256) (hy : y < 256) :
    Tri ρ L (law17_Config K k) (fun r L' => ∃ b, r = cfg5 b m s o n y ∧ L' = pts b rtC :: L) := by
  unfold law17_Config
  refine Tri.new fun x1 => Tri.new fun x2 => ?_
  refine Tri.ldI (v := k.e0) (Cell.here (i := 0) rfl).tail (Tri.ldI (v := k.e1) (Cell.here (i := 1) rfl).tail (Tri.ldI (v := k.e2) (Cell.here (i := 2) rfl).tail ?_))
  rw [e0, e1, e2]
  refine Tri.bnd (config_spec hm hs ho) ?_
  rintro _ _ ⟨b, rfl, rfl⟩
  refine Tri.new fun x7 => ?_
  refine Tri.stB (l := Agg.cells (cfg0 b m s o)) (by rfl) (by simp [Agg.cells]) rfl ?_
  rw [cfgSplice12 _ _ rfl]
  refine Tri.drw (Tri.ldI (v := k.e3) (Cell.here (i := 3) rfl).tail.tail.tail (Tri.ldI (v := ((1 + m : Nat) : Int)) (Cell.here (i := 3) rfl) ?_))
  have c4 : ∀ {A B C : Assn} {L' : As}, Cell ρ (A :: B :: C :: pts x1 (Agg.cells k) :: L') ⟨x1, 4, none⟩ (.int .u8 (y : Int)) := (Cell.here (i := 4) (by rw [← e4]; rfl)).tail.tail.tail
  have a4 : (⟨x1, 0, none⟩ : Addr).add ((4 : Int).toNat * 1) = ⟨x1, 4, none⟩ := rfl
  rw [a4, e3]
  refine Tri.wld1 c4 fun w hw => Tri.ldI c4 ?_
  have w3 : IntKind.wrap .i64 (n : Int) = (n : Int) := w64 (by omega) (by omega)
  have w8 : Int.tmod (n : Int) 8 = ((n % 8 : Nat) : Int) := rfl
  have wc : IntKind.wrap .i64 ((1 : Int) + ((n % 8 : Nat) : Int)) = ((1 + n % 8 : Nat) : Int) := by rw [w64 (by omega) (by omega)]; omega
  have wy : IntKind.wrap .i64 (((1 + m : Nat) : Int) + IntKind.wrap .i64 (y : Int)) = ((1 + m + y : Nat) : Int) := by rw [w64 (x := (y : Int)) (by omega) (by omega), w64 (by omega) (by omega)]; omega
  rw [w3, w8, wc, wy]
  refine Tri.stB (i := 5) (l := [.int .i64 ((1 + n % 8 : Nat) : Int)]) (by rfl) (by simp [Agg.cells]) rfl (Tri.agr1 hw c4 ?_)
  refine Tri.stB (i := 6) (l := [.int .i64 ((1 + m + y : Nat) : Int)]) (by rfl) (by simp [Agg.cells, splice]) rfl ?_
  have ec : splice (splice (Agg.cells (cfg0 b m s o)) 5 [.int .i64 ((1 + n % 8 : Nat) : Int)]) 6 [.int .i64 ((1 + m + y : Nat) : Int)] = Agg.cells (cfg5 b m s o n y) := rfl
  rw [ec]
  refine Tri.ldG (cfg5 b m s o n y) rfl (Cells.here (i := 0) (by simp [Agg.cells]) rfl) ?_
  refine Tri.order [2] rfl (Tri.stB (l := Agg.cells (cfg5 b m s o n y)) (by rfl) (by simp [Agg.cells]) rfl ?_)
  rw [cfgSplice12 _ _ rfl]
  refine Tri.ldG (cfg5 b m s o n y) rfl (Cells.here (i := 0) (by simp [Agg.cells]) rfl) ?_
  exact Tri.drop (Tri.drop (Tri.pick 1 rfl (Tri.drop (Tri.ret ⟨b, rfl, rfl⟩))))
/-- a session over one of the statements' configurations -/
theorem bridge0_spec {b m s o n y draw : Nat} (hK : KBig K) (hm : m < 256) (hs : s < 256) (ho : o < 256) (hy : y < 256) (hd : draw < 4294967296) :
    Tri ρ (pts b rtC :: L) (bridge_New K (cfg5 b m s o n y) draw) (fun r L' => ∃ p, r = (some ⟨p, 0, none⟩, 0) ∧ L' = brI p (cfg5 b m s o n y) (Bm.new (1 + m) (1 + s) (1 + o) (1 + n % 8) (1 + m + y) draw) :: pts b rtC :: L) :=
  bridge_New_spec hK (cfg5_num hm hs ho hy) (cfg5_check hK hm hs ho hy) hd
/-! ### the anchor -/
def bw0 : Bm := Bm.new 100 100 100 3 199 0
def bwIn : List UInt8 := [129, 130, 1, 2, 3, 4, 73, 107]
def bw1 : Bm := (bw0.feed false 100 bwIn).1
def bw2 : Bm := bw1.out' true 99
theorem bw_feed : (bw0.feed false 100 bwIn).2 = 8 := by decide +kernel
theorem bw_peek : bw1.peek true 99 = [129, 130, 60, 110, 243, 95, 116, 7] := by decide +kernel
theorem bw_wait : (bw2.get false).q.l = [] := by decide +kernel
theorem bw_sent : (bw2.get false).leg.sent = false := by decide +kernel
theorem bw_got : (bw2.get false).leg.got = false := by decide +kernel
theorem bw_wrong : (bw2.get false).leg.wrong = 0 := by decide +kernel
theorem bw_over : (bw2.get false).over = false := by decide +kernel
theorem bw_lost : (bw2.get false).lost = false := by decide +kernel
theorem awake17_spec (hK : KBig K) : Tri ρ L (law17_awake K) (fun r L' => r = true ∧ L' = L) := by
  have f0 : bw0.Ok ∧ bw0.Fit := Bm.new_ok (by omega) (by omega) (by omega)
  have f1 : bw1.Ok ∧ bw1.Fit := feedB_ok f0.1 f0.2
  unfold law17_awake
  refine Tri.bnd (config5_spec (m := 99) (s := 99) (o := 99) (n := 2) (y := 99) rfl rfl rfl rfl rfl (by omega) (by omega) (by omega) (by omega) (by omega)) ?_
  rintro _ _ ⟨b, rfl, rfl⟩
  refine Tri.bnd (bridge0_spec (draw := 0) hK (by omega) (by omega) (by omega) (by omega) (by omega)) ?_
  rintro _ _ ⟨p, rfl, rfl⟩
  have hd : ((0 : Int) != 0) = false := rfl
  rw [hd]
  simp only [Bool.false_eq_true, if_false, bnd_ret, Option.isNone_some]
  refine Tri.new fun x4 => ?_
  have el : ([.int .u8 (129 : Int), .int .u8 (130 : Int), .int .u8 (1 : Int), .int .u8 (2 : Int), .int .u8 (3 : Int), .int .u8 (4 : Int), .int .u8 (73 : Int), .int .u8 (107 : Int)] : List Value) = bl bwIn := rfl
  rw [el]
  refine Tri.mrk ?_
  have x0 : (0 : Int) = ix false := rfl
  have x1 : (1 : Int) = ix true := rfl
  refine Tri.pick 1 rfl (Tri.bnd (brFeed_spec (i := false) (m := 100) hK rfl f0.1 f0.2 (Rd.lit (l := bwIn)) rfl (by decide)) ?_)
  rintro _ _ ⟨rfl, rfl⟩
  have h8 : (bw0.feed false 100 bwIn).2 = 8 := bw_feed
  change Tri ρ (brI p (cfg5 b 99 99 99 2 99) bw1 :: _) _ _
  have hfe : ((((Bm.new (1 + 99) (1 + 99) (1 + 99) (1 + 2 % 8) (1 + 99 + 99) 0).feed false 100 bwIn).2 : Nat) : Int) = 8 := by
    have : ((Bm.new (1 + 99) (1 + 99) (1 + 99) (1 + 2 % 8) (1 + 99 + 99) 0).feed false 100 bwIn).2 = 8 := bw_feed
    rw [this]; rfl
  rw [hfe]
  refine Tri.bnd (brPeek_spec (i := true) (by omega)) ?_
  rintro x6 _ ⟨h6, rfl⟩
  rw [bw_peek] at h6 ⊢
  refine Tri.strOf (t := ba [129, 130, 60, 110, 243, 95, 116, 7]) (by rw [bytes_ba]; exact Rd.row) (Tri.drop ?_)
  refine Tri.bnd (brTake_spec (i := true) hK f1.1 f1.2 (by omega)) ?_
  rintro x8 _ ⟨h8', rfl⟩
  rw [bw_peek] at h8' ⊢
  refine Tri.strOf (t := ba [129, 130, 60, 110, 243, 95, 116, 7]) (by rw [bytes_ba]; exact Rd.row) (Tri.drop ?_)
  have e2 : bw1.out' true 99 = bw2 := rfl
  rw [e2]
  refine Tri.bnd (brWaiting_spec (i := false)) ?_
  rintro _ _ ⟨rfl, rfl⟩
  refine Tri.bnd (brLeg_spec (i := false)) ?_
  rintro _ _ ⟨rfl, rfl⟩
  rw [bw_wait, bw_sent, bw_got, bw_wrong]
  have s1 : sEq (ba [129, 130, 60, 110, 243, 95, 116, 7]) (ba [129, 130, 60, 110, 243, 95, 116, 7]) = true := by rw [sEq_ba]; rfl
  have s2 : sEq (ba [129, 130, 60, 110, 243, 95, 116, 7]) (ByteArray.mk #[129, 130, 60, 110, 243, 95, 116, 7]) = true := by
    have : ByteArray.mk #[129, 130, 60, 110, 243, 95, 116, 7] = ba [129, 130, 60, 110, 243, 95, 116, 7] := rfl
    rw [this, sEq_ba]; rfl
  have b8 : ((8 : Int) == 8) = true := rfl
  have z0 : ((([] : List Ev).length : Nat) : Int) = 0 := rfl
  have z1 : ((sizeQ [] : Nat) : Int) = 0 := rfl
  have z2 : ((0 : Int) == 0) = true := rfl
  have z3 : ((0 : Nat) : Int) = 0 := rfl
  simp only [b8, s1, s2, z0, z1, z2, z3, if_true, bnd_ret, Bool.not_false, bnd_ret, bnd_bnd, bnd_ite, bnd_lt, bnd_ldB, bnd_ldI, bnd_ldS, bnd_ldP, bnd_ldSl, bnd_ldG, bnd_nn, bnd_ixA, bnd_st, bnd_drw, bnd_strOf, bnd_new, bnd_slS, bnd_slA, bnd_slStr, bnd_app, bnd_appS, bnd_appT, bnd_appZ, bnd_chk, bnd_mk, bnd_cpy, bnd_wld, bnd_agr, bnd_bytesOf, bnd_drw2, bnd_mrk, bnd_fail, sumK_inl, sumK_inr, bnd_inr]
  refine Tri.bnd brOver_spec ?_
  rintro _ _ ⟨rfl, rfl⟩
  rw [bw_over]
  simp only [Bool.false_and, Bool.not_false, if_true, bnd_ret, bnd_bnd, bnd_ite, bnd_lt, bnd_ldB, bnd_ldI, bnd_ldS, bnd_ldP, bnd_ldSl, bnd_ldG, bnd_nn, bnd_ixA, bnd_st, bnd_drw, bnd_strOf, bnd_new, bnd_slS, bnd_slA, bnd_slStr, bnd_app, bnd_appS, bnd_appT, bnd_appZ, bnd_chk, bnd_mk, bnd_cpy, bnd_wld, bnd_agr, bnd_bytesOf, bnd_drw2, bnd_mrk, bnd_fail, sumK_inl, sumK_inr, bnd_inr]
  refine Tri.bnd (brLost_spec (i := false)) ?_
  rintro _ _ ⟨rfl, rfl⟩
  rw [bw_lost]
  exact Tri.drop (Tri.drop (Tri.drop (Tri.ret ⟨rfl, rfl⟩)))
end Go.Proofs.YtjdnjlnfcbaokaaGreat

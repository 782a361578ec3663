-- written by this session's own printing program (myprint.sh)
import Derived.Test.YtimjmndogalcbaaPPackedDecodesx0
import Derived.Test.YtimjmndogalcbaaPPackedDecodesx6
import Derived.Test.YtimjmndogalcbaaPPackedDecodesx7
import Derived.Test.YtimjmndogalcbaaPPackedDecodesx9
import Derived.Test.YtimjmndogalcbaaPPackedDecodesx10
namespace Go.Proofs.Ytimjmndogalcbaa.PPackedDecodes
open Go.RowKit Go.Proofs.YtimjmndogalcbaaW.PrintWords Go.Proofs.YtimjmndogalcbaaW.PrintLast Go.Proofs.YtimjmndogalcbaaW.PrintMore
attribute [local go_sem] max2_int min2_int max_two min_two max_three min_three max_four min_four   -- for this text's walks alone
set_option linter.unusedVariables false
set_option linter.unusedSimpArgs false

/-! ### stoalaw09_PackedDecodes: function 4 -/
def stoalaw09_PackedDecodes.j0 : Nat → List Int → List Int → List Int → Int → Bool → Option (Bool)
 | 0, _, _, _, _, _ => none
 | k + 1, x0, x3, x8, x9, x48 => if x48 = true then (some false) else (if 0 ≤ (x0.length : Int) then (if (x0.length : Int) ≤ (x3.length : Int) then ((packed_Range.f k (x3.take ((x0.length : Int) : Int).toNat)).bind fun bt334 => ((stoaref01_Intact.f k x3 x0).bind fun t338 => (if t338 = true then (if x9 = 0 then (if (x8.length : Int) = 0 then (if bt334.2.2.2 = 1 then (if bt334.1 = 0 then (if bt334.2.1 = 0 then (some (bt334.2.2.1 == 0)) else (some false)) else (some false)) else (some false)) else (if bt334.2.2.2 = 0 then ((stoaref09_Least.f k x8).bind fun t339 => (if bt334.1 = t339 then ((stoaref09_Greatest.f k x8).bind fun t340 => (if bt334.2.1 = t340 then (some (bt334.2.2.1 == (x8.length : Int))) else (some false))) else (some false))) else (some false))) else (if bt334.2.2.2 = x9 then (if bt334.1 = 0 then (if bt334.2.1 = 0 then (some (bt334.2.2.1 == 0)) else (some false)) else (some false)) else (some false))) else (some false)))) else (none)) else (none))
def stoalaw09_PackedDecodes.f (k : Nat) (l0 : List Int) : Option (Bool) := (stoalaw09_alive.f k).bind fun t304 => (if t304 = true then ((stoaref01_Wide.f k l0).bind fun t305 => (if 0 ≤ (l0.length : Int) then (if (l0.length : Int) ≤ (t305.length : Int) then ((packed_Decode.f k (t305.take ((l0.length : Int) : Int).toNat)).bind fun bt312 => ((packed_Decode.f k (t305.take ((l0.length : Int) : Int).toNat)).bind fun bt320 => ((stoaref09_Decode.f k l0).bind fun bt324 => (if bt312.2 = bt324.2 then ((stoaref08_Apart.f k bt312.1 bt320.1 bt324.1).bind fun bt328 => (stoalaw09_PackedDecodes.j0 k l0 t305 bt324.1 bt324.2 (!bt328.1))) else (stoalaw09_PackedDecodes.j0 k l0 t305 bt324.1 bt324.2 true))))) else (none)) else (none))) else (some false))
theorem stoalaw09_PackedDecodes.mono_l : ∀ k, (∀ y0 y1 y2 y3 y4, LeO (stoalaw09_PackedDecodes.j0 k y0 y1 y2 y3 y4) (stoalaw09_PackedDecodes.j0 (k + 1) y0 y1 y2 y3 y4))
 | 0 => fun _ _ _ _ _ r h => by simp [stoalaw09_PackedDecodes.j0] at h
 | k + 1 => by
  have ih0 := stoalaw09_PackedDecodes.mono_l k
  ·intro y0 y1 y2 y3 y4
   unfold stoalaw09_PackedDecodes.j0
   repeat' first
   | (with_reducible exact ih0 _ _ _ _ _)
   | (with_reducible exact packed_Decode.mono _ _)
   | (with_reducible exact packed_Range.mono _ _)
   | (with_reducible exact stoalaw09_alive.mono _)
   | (with_reducible exact stoaref01_Intact.mono _ _ _)
   | (with_reducible exact stoaref01_Wide.mono _ _)
   | (with_reducible exact stoaref08_Apart.mono _ _ _ _)
   | (with_reducible exact stoaref09_Decode.mono _ _)
   | (with_reducible exact stoaref09_Greatest.mono _ _)
   | (with_reducible exact stoaref09_Least.mono _ _)
   | (with_reducible exact LeO.refl _)
   | (with_reducible exact LeO.none _)
   | (with_reducible refine LeO.ite ?_ ?_)
   | (with_reducible refine LeO.bind ?_ (fun _ => ?_))
   | exact ih0 _ _ _ _ _
   | exact packed_Decode.mono _ _
   | exact packed_Range.mono _ _
   | exact stoalaw09_alive.mono _
   | exact stoaref01_Intact.mono _ _ _
   | exact stoaref01_Wide.mono _ _
   | exact stoaref08_Apart.mono _ _ _ _
   | exact stoaref09_Decode.mono _ _
   | exact stoaref09_Greatest.mono _ _
   | exact stoaref09_Least.mono _ _
   | exact LeO.none _
   | refine LeO.ite ?_ ?_
   | refine LeO.bind ?_ (fun _ => ?_)
theorem stoalaw09_PackedDecodes.mono : ∀ a0 k, LeO (stoalaw09_PackedDecodes.f k a0) (stoalaw09_PackedDecodes.f (k + 1) a0) := by
 intro a0 k
 have ih0 := stoalaw09_PackedDecodes.mono_l k
 unfold stoalaw09_PackedDecodes.f
 repeat' first
   | (with_reducible exact ih0 _ _ _ _ _)
   | (with_reducible exact packed_Decode.mono _ _)
   | (with_reducible exact packed_Range.mono _ _)
   | (with_reducible exact stoalaw09_alive.mono _)
   | (with_reducible exact stoaref01_Intact.mono _ _ _)
   | (with_reducible exact stoaref01_Wide.mono _ _)
   | (with_reducible exact stoaref08_Apart.mono _ _ _ _)
   | (with_reducible exact stoaref09_Decode.mono _ _)
   | (with_reducible exact stoaref09_Greatest.mono _ _)
   | (with_reducible exact stoaref09_Least.mono _ _)
   | (with_reducible exact LeO.refl _)
   | (with_reducible exact LeO.none _)
   | (with_reducible refine LeO.ite ?_ ?_)
   | (with_reducible refine LeO.bind ?_ (fun _ => ?_))
   | exact ih0 _ _ _ _ _
   | exact packed_Decode.mono _ _
   | exact packed_Range.mono _ _
   | exact stoalaw09_alive.mono _
   | exact stoaref01_Intact.mono _ _ _
   | exact stoaref01_Wide.mono _ _
   | exact stoaref08_Apart.mono _ _ _ _
   | exact stoaref09_Decode.mono _ _
   | exact stoaref09_Greatest.mono _ _
   | exact stoaref09_Least.mono _ _
   | exact LeO.none _
   | refine LeO.ite ?_ ?_
   | refine LeO.bind ?_ (fun _ => ?_)
set_option maxHeartbeats 8000000 in
set_option maxRecDepth 100000 in
theorem stoalaw09_PackedDecodes.calls (k : Nat) (A0 : Option Addr) (c0 : Nat) (l0 : List Int) (r : Bool) (w : World) (hr0 : Kd.C (Kd.int .u8) w A0 l0.length l0) (hc0 : l0.length ≤ c0) (h : stoalaw09_PackedDecodes.f k l0 = some r) :
  Calls Try.prog 4 #[.slice A0 l0.length c0] w fun e w' => e = .returned (.bool r) ∧ Below w.heap.size w w' := by
 have HR0 := Aside0.mk hr0
 have HC0 := Aside0.mk hc0
 clear hr0 hc0
 have HB := Aside0.mk (Below.refl w.heap.size w)
 have H : ((stoalaw09_alive.f k).bind fun t304 => (if t304 = true then ((stoaref01_Wide.f k l0).bind fun t305 => (if 0 ≤ (l0.length : Int) then (if (l0.length : Int) ≤ (t305.length : Int) then ((packed_Decode.f k (t305.take ((l0.length : Int) : Int).toNat)).bind fun bt312 => ((packed_Decode.f k (t305.take ((l0.length : Int) : Int).toNat)).bind fun bt320 => ((stoaref09_Decode.f k l0).bind fun bt324 => (if bt312.2 = bt324.2 then ((stoaref08_Apart.f k bt312.1 bt320.1 bt324.1).bind fun bt328 => (stoalaw09_PackedDecodes.j0 k l0 t305 bt324.1 bt324.2 (!bt328.1))) else (stoalaw09_PackedDecodes.j0 k l0 t305 bt324.1 bt324.2 true))))) else (none)) else (none))) else (some false))) = some r := h
 clear h
 replace H := Option.bind_eq_some_iff.mp H
 obtain ⟨t304, A20, H⟩ := H
 replace H : (if t304 = true then ((stoaref01_Wide.f k l0).bind fun t305 => (if 0 ≤ (l0.length : Int) then (if (l0.length : Int) ≤ (t305.length : Int) then ((packed_Decode.f k (t305.take ((l0.length : Int) : Int).toNat)).bind fun bt312 => ((packed_Decode.f k (t305.take ((l0.length : Int) : Int).toNat)).bind fun bt320 => ((stoaref09_Decode.f k l0).bind fun bt324 => (if bt312.2 = bt324.2 then ((stoaref08_Apart.f k bt312.1 bt320.1 bt324.1).bind fun bt328 => (stoalaw09_PackedDecodes.j0 k l0 t305 bt324.1 bt324.2 (!bt328.1))) else (stoalaw09_PackedDecodes.j0 k l0 t305 bt324.1 bt324.2 true))))) else (none)) else (none))) else (some false)) = some r := H
 have A2 := Aside0.mk A20
 clear A20
 by_cases c3 : t304 = true
 ·subst c3
  have H1 : ((stoaref01_Wide.f k l0).bind fun t305 => (if 0 ≤ (l0.length : Int) then (if (l0.length : Int) ≤ (t305.length : Int) then ((packed_Decode.f k (t305.take ((l0.length : Int) : Int).toNat)).bind fun bt312 => ((packed_Decode.f k (t305.take ((l0.length : Int) : Int).toNat)).bind fun bt320 => ((stoaref09_Decode.f k l0).bind fun bt324 => (if bt312.2 = bt324.2 then ((stoaref08_Apart.f k bt312.1 bt320.1 bt324.1).bind fun bt328 => (stoalaw09_PackedDecodes.j0 k l0 t305 bt324.1 bt324.2 (!bt328.1))) else (stoalaw09_PackedDecodes.j0 k l0 t305 bt324.1 bt324.2 true))))) else (none)) else (none))) = some r := by rw [if_pos rfl] at H; exact H
  clear H
  have H := H1
  clear H1
  replace H := Option.bind_eq_some_iff.mp H
  obtain ⟨t305, A40, H⟩ := H
  replace H : (if 0 ≤ (l0.length : Int) then (if (l0.length : Int) ≤ (t305.length : Int) then ((packed_Decode.f k (t305.take ((l0.length : Int) : Int).toNat)).bind fun bt312 => ((packed_Decode.f k (t305.take ((l0.length : Int) : Int).toNat)).bind fun bt320 => ((stoaref09_Decode.f k l0).bind fun bt324 => (if bt312.2 = bt324.2 then ((stoaref08_Apart.f k bt312.1 bt320.1 bt324.1).bind fun bt328 => (stoalaw09_PackedDecodes.j0 k l0 t305 bt324.1 bt324.2 (!bt328.1))) else (stoalaw09_PackedDecodes.j0 k l0 t305 bt324.1 bt324.2 true))))) else (none)) else (none)) = some r := H
  have A4 := Aside0.mk A40
  clear A40
  by_cases c5 : 0 ≤ (l0.length : Int)
  ·rw [if_pos c5] at H
   have c5b0 := eq_true c5
   have c5b1 : decide (0 ≤ (l0.length : Int)) = true := decide_eq_true c5
   clear c5
   by_cases c6 : (l0.length : Int) ≤ (t305.length : Int)
   ·rw [if_pos c6] at H
    have c6b0 := eq_true c6
    have c6b1 : decide ((l0.length : Int) ≤ (t305.length : Int)) = true := decide_eq_true c6
    clear c6
    obtain ⟨y308, hy308⟩ : ∃ y_ : List Int, y_ = (t305.take ((l0.length : Int) : Int).toNat) := ⟨_, rfl⟩
    replace H : ((packed_Decode.f k y308).bind fun bt312 => ((packed_Decode.f k (t305.take ((l0.length : Int) : Int).toNat)).bind fun bt320 => ((stoaref09_Decode.f k l0).bind fun bt324 => (if bt312.2 = bt324.2 then ((stoaref08_Apart.f k bt312.1 bt320.1 bt324.1).bind fun bt328 => (stoalaw09_PackedDecodes.j0 k l0 t305 bt324.1 bt324.2 (!bt328.1))) else (stoalaw09_PackedDecodes.j0 k l0 t305 bt324.1 bt324.2 true))))) = some r := by first | (rw [hy308]; with_reducible exact H) | (have H2_ := (Option.bind_some _ _).symm.trans H; rw [hy308]; with_reducible exact H2_) | (have H2_ := (Option.bind_some _ _).symm.trans H; with_reducible exact H2_) | with_reducible exact H | (rw [hy308]; exact H) | exact H
    have Ny308 := Aside0.mk hy308
    clear hy308
    replace H := Option.bind_eq_some_iff.mp H
    obtain ⟨⟨t312, t313⟩, A70, H⟩ := H
    replace H : ((packed_Decode.f k (t305.take ((l0.length : Int) : Int).toNat)).bind fun bt320 => ((stoaref09_Decode.f k l0).bind fun bt324 => (if t313 = bt324.2 then ((stoaref08_Apart.f k t312 bt320.1 bt324.1).bind fun bt328 => (stoalaw09_PackedDecodes.j0 k l0 t305 bt324.1 bt324.2 (!bt328.1))) else (stoalaw09_PackedDecodes.j0 k l0 t305 bt324.1 bt324.2 true)))) = some r := H
    have A7 := Aside0.mk A70
    clear A70
    have c8b0 := eq_true (of_decide_eq_true (by first | (with_reducible assumption) | assumption) : 0 ≤ (l0.length : Int))
    have c9b0 := eq_true (of_decide_eq_true (by first | (with_reducible assumption) | assumption) : (l0.length : Int) ≤ (t305.length : Int))
    replace H : ((packed_Decode.f k y308).bind fun bt320 => ((stoaref09_Decode.f k l0).bind fun bt324 => (if t313 = bt324.2 then ((stoaref08_Apart.f k t312 bt320.1 bt324.1).bind fun bt328 => (stoalaw09_PackedDecodes.j0 k l0 t305 bt324.1 bt324.2 (!bt328.1))) else (stoalaw09_PackedDecodes.j0 k l0 t305 bt324.1 bt324.2 true)))) = some r := by first | (rw [Ny308.out]; with_reducible exact H) | (have H2_ := (Option.bind_some _ _).symm.trans H; rw [Ny308.out]; with_reducible exact H2_) | (have H2_ := (Option.bind_some _ _).symm.trans H; with_reducible exact H2_) | with_reducible exact H | (rw [Ny308.out]; exact H) | exact H
    replace H := Option.bind_eq_some_iff.mp H
    obtain ⟨⟨t320, t321⟩, A100, H⟩ := H
    replace H : ((stoaref09_Decode.f k l0).bind fun bt324 => (if t313 = bt324.2 then ((stoaref08_Apart.f k t312 t320 bt324.1).bind fun bt328 => (stoalaw09_PackedDecodes.j0 k l0 t305 bt324.1 bt324.2 (!bt328.1))) else (stoalaw09_PackedDecodes.j0 k l0 t305 bt324.1 bt324.2 true))) = some r := H
    have A10 := Aside0.mk A100
    clear A100
    replace H := Option.bind_eq_some_iff.mp H
    obtain ⟨⟨t324, t325⟩, A110, H⟩ := H
    replace H : (if t313 = t325 then ((stoaref08_Apart.f k t312 t320 t324).bind fun bt328 => (stoalaw09_PackedDecodes.j0 k l0 t305 t324 t325 (!bt328.1))) else (stoalaw09_PackedDecodes.j0 k l0 t305 t324 t325 true)) = some r := H
    have A11 := Aside0.mk A110
    clear A110
    have HC12 := Aside0.mk H
    clear H
    go_enter Try.func4, Try.ntmps4
    go_upto_region 7 with (first | ((with_reducible refine gate_callee (f := 7) rfl ?_); refine goesL_ (some 14) rfl rfl Try.func7 (by kernel_rfl) rfl #[] rfl (by (try simp only [List.map_toArray, List.map_cons, List.map_nil]); first | done | rfl | (simp only [List.length_drop, List.length_take]; rfl)) ?_; (with_reducible refine (stoalaw09_alive.calls k  true _ A2.out).mono ?_); rintro e w13 ⟨rfl, hb⟩; refine ⟨_, rfl, ?_⟩; have n0_ := Aside0.mk (below_step (by repeat (first | (with_reducible first | exact HB.out | apply below_alloc | apply pw_below_drewN | apply below_drew1) | exact HB.out)) hb); clear HB; have HB := n0_; clear n0_; (try clear hb); (try clear hb2); (try clear hk); (try clear hi)) | ((with_reducible refine gate_callee (f := 13) rfl ?_); refine goesL_ (some 17) rfl rfl Try.func13 (by kernel_rfl) rfl #[.slice A0 l0.length c0] rfl (by (try simp only [List.map_toArray, List.map_cons, List.map_nil]); first | done | rfl | (simp only [List.length_drop, List.length_take]; rfl)) ?_; (with_reducible refine (stoaref01_Wide.calls k _ _ l0 t305 _ ?side1 ?side2 A4.out).mono ?_); (case side1 => repeat (first | exact (Kd.C_below HR0.out HB.out) | (with_reducible refine Kd.C_alloc ?_ _) | (with_reducible refine Kd.C_drewN ?_ _) | (with_reducible refine Kd.C_drew ?_))); (case side2 => exact HC0.out); rintro e w14 ⟨v306, rfl, ho0, hb⟩; refine ⟨_, rfl, ?_⟩; have n0_ := Aside0.mk (Kd.R_lower ho0 (below_size (by repeat (first | (with_reducible first | exact HB.out | apply below_alloc | apply pw_below_drewN | apply below_drew1) | exact HB.out)))); have n1_ := Aside0.mk (below_step (by repeat (first | (with_reducible first | exact HB.out | apply below_alloc | apply pw_below_drewN | apply below_drew1) | exact HB.out)) hb); clear HB; have HO307 := n0_; have HB := n1_; clear n0_ n1_; (try clear hb); (try clear hb2); (try clear hk); (try clear hi); (try clear ho0); obtain ⟨Ao16, co16, eo16⟩ := Kd.R_slice HO307.out; subst eo16; have q15 : ((l0.length : Int) : Int) ≤ ((t305.length : Int) : Int) := of_decide_eq_true (by first | (with_reducible assumption) | assumption); obtain ⟨i015, hi015, _, hsz15, _⟩ := info_parts info5; have hroom15 : t305.length ≤ co16 := (Kd.R_reads' HO307.out).2.1; have hC15 : Kd.C (Kd.int .u8) _ Ao16 t305.length t305 := (Kd.R_reads' HO307.out).2.2; have hcut15 := cut_to (P := Try.prog) 25 5 .i64 Try.underlying25 hi015 Ao16 t305.length co16 (l0.length : Int) (of_decide_eq_true (by first | (with_reducible assumption) | assumption)) q15 hroom15; have hr15 := Kd.C_take (m := ((l0.length : Int) : Int).toNat) hC15 (by omega); have hy15 : y308.length = ((l0.length : Int) : Int).toNat := (by rw [Ny308.out, List.length_take]; omega); rw [← Ny308.out] at hr15; rw [← hy15] at hcut15; have HR311 := Aside0.mk hr15; have HC311 := Aside0.mk (show y308.length ≤ co16 from by omega); clear hr15 hC15 hroom15 hi015 hsz15; have KY15 := Aside0.mk hy15; clear hy15; have KL15 := Aside0.mk (show ((l0.length : Int) : Int).toNat ≤ t305.length from by omega); replace q15 := eq_true q15) | ((with_reducible refine gate_callee (f := 14) rfl ?_); refine goesL_ (some 23) rfl rfl Try.func14 (by kernel_rfl) rfl #[.slice Ao16 y308.length co16] rfl (by (try simp only [List.map_toArray, List.map_cons, List.map_nil]); first | done | rfl | (simp only [List.length_drop, List.length_take]; rfl)) ?_; (with_reducible refine (packed_Decode.calls k _ _ y308 t312 t313 _ ?side1 ?side2 A7.out).mono ?_); (case side1 => repeat (first | exact (by repeat (first | (with_reducible exact HR311.out) | (with_reducible refine Kd.C_alloc ?_ _) | (with_reducible refine Kd.C_drewN ?_ _) | (with_reducible refine Kd.C_drew ?_) | exact HR311.out)) | (with_reducible refine Kd.C_alloc ?_ _) | (with_reducible refine Kd.C_drewN ?_ _) | (with_reducible refine Kd.C_drew ?_))); (case side2 => exact HC311.out); rintro e w17 ⟨v314, rfl, ho0, hb⟩; refine ⟨_, rfl, ?_⟩; have n0_ := Aside0.mk (Kd.R_below (by (with_reducible repeat (first | apply Kd.R_alloc | apply Kd.R_drewN | apply Kd.R_drew)); exact HO307.out) hb); have n1_ := Aside0.mk (Kd.R_lower ho0 (below_size (by repeat (first | (with_reducible first | exact HB.out | apply below_alloc | apply pw_below_drewN | apply below_drew1) | exact HB.out)))); have n2_ := Aside0.mk (Kd.C_below (by repeat (first | (with_reducible exact HR311.out) | (with_reducible refine Kd.C_alloc ?_ _) | (with_reducible refine Kd.C_drewN ?_ _) | (with_reducible refine Kd.C_drew ?_) | exact HR311.out)) hb); have n3_ := Aside0.mk (below_step (by repeat (first | (with_reducible first | exact HB.out | apply below_alloc | apply pw_below_drewN | apply below_drew1) | exact HB.out)) hb); clear HO307; clear HR311; clear HB; have HO307 := n0_; have HO315 := n1_; have HR311 := n2_; have HB := n3_; clear n0_ n1_ n2_ n3_; (try clear hb); (try clear hb2); (try clear hk); (try clear hi); (try clear ho0); have q18 : ((l0.length : Int) : Int) ≤ ((t305.length : Int) : Int) := of_decide_eq_true (by first | (with_reducible assumption) | assumption); obtain ⟨i018, hi018, _, hsz18, _⟩ := info_parts info5; have hroom18 : t305.length ≤ co16 := (Kd.R_reads' HO307.out).2.1; have hC18 : Kd.C (Kd.int .u8) _ Ao16 t305.length t305 := (Kd.R_reads' HO307.out).2.2; have hcut18 := cut_to (P := Try.prog) 25 5 .i64 Try.underlying25 hi018 Ao16 t305.length co16 (l0.length : Int) (of_decide_eq_true (by first | (with_reducible assumption) | assumption)) q18 hroom18; have hr18 := Kd.C_take (m := ((l0.length : Int) : Int).toNat) hC18 (by omega); have hy18 : y308.length = ((l0.length : Int) : Int).toNat := (by rw [Ny308.out, List.length_take]; omega); rw [← Ny308.out] at hr18; rw [← hy18] at hcut18; have HR319 := Aside0.mk hr18; have HC319 := Aside0.mk (show y308.length ≤ co16 from by omega); clear hr18 hC18 hroom18 hi018 hsz18; have KY18 := Aside0.mk hy18; clear hy18; have KL18 := Aside0.mk (show ((l0.length : Int) : Int).toNat ≤ t305.length from by omega); replace q18 := eq_true q18) | ((with_reducible refine gate_callee (f := 14) rfl ?_); refine goesL_ (some 31) rfl rfl Try.func14 (by kernel_rfl) rfl #[.slice Ao16 y308.length co16] rfl (by (try simp only [List.map_toArray, List.map_cons, List.map_nil]); first | done | rfl | (simp only [List.length_drop, List.length_take]; rfl)) ?_; (with_reducible refine (packed_Decode.calls k _ _ y308 t320 t321 _ ?side1 ?side2 A10.out).mono ?_); (case side1 => repeat (first | exact (by repeat (first | (with_reducible exact HR319.out) | (with_reducible refine Kd.C_alloc ?_ _) | (with_reducible refine Kd.C_drewN ?_ _) | (with_reducible refine Kd.C_drew ?_) | exact HR319.out)) | (with_reducible refine Kd.C_alloc ?_ _) | (with_reducible refine Kd.C_drewN ?_ _) | (with_reducible refine Kd.C_drew ?_))); (case side2 => exact HC319.out); rintro e w19 ⟨v322, rfl, ho0, hb⟩; refine ⟨_, rfl, ?_⟩; have n0_ := Aside0.mk (Kd.R_below (by (with_reducible repeat (first | apply Kd.R_alloc | apply Kd.R_drewN | apply Kd.R_drew)); exact HO307.out) hb); have n1_ := Aside0.mk (Kd.R_elder' (by (with_reducible repeat (first | apply Kd.R_alloc | apply Kd.R_drewN | apply Kd.R_drew)); exact HO315.out) (Kd.R_base ho0) hb); have n2_ := Aside0.mk (Kd.R_lower (Kd.R_new' ho0 (Kd.R_lt (by (with_reducible repeat (first | apply Kd.R_alloc | apply Kd.R_drewN | apply Kd.R_drew)); exact HO315.out))) (below_size (by repeat (first | (with_reducible first | exact HB.out | apply below_alloc | apply pw_below_drewN | apply below_drew1) | exact HB.out)))); have n3_ := Aside0.mk (Kd.C_below (by repeat (first | (with_reducible exact HR311.out) | (with_reducible refine Kd.C_alloc ?_ _) | (with_reducible refine Kd.C_drewN ?_ _) | (with_reducible refine Kd.C_drew ?_) | exact HR311.out)) hb); have n4_ := Aside0.mk (Kd.C_below (by repeat (first | (with_reducible exact HR319.out) | (with_reducible refine Kd.C_alloc ?_ _) | (with_reducible refine Kd.C_drewN ?_ _) | (with_reducible refine Kd.C_drew ?_) | exact HR319.out)) hb); have n5_ := Aside0.mk (below_step (by repeat (first | (with_reducible first | exact HB.out | apply below_alloc | apply pw_below_drewN | apply below_drew1) | exact HB.out)) hb); clear HO307; clear HO315; clear HR311; clear HR319; clear HB; have HO307 := n0_; have HO315 := n1_; have HO323 := n2_; have HR311 := n3_; have HR319 := n4_; have HB := n5_; clear n0_ n1_ n2_ n3_ n4_ n5_; (try clear hb); (try clear hb2); (try clear hk); (try clear hi); (try clear ho0)) | ((with_reducible refine gate_callee (f := 15) rfl ?_); refine goesL_ (some 36) rfl rfl Try.func15 (by kernel_rfl) rfl #[.slice A0 l0.length c0] rfl (by (try simp only [List.map_toArray, List.map_cons, List.map_nil]); first | done | rfl | (simp only [List.length_drop, List.length_take]; rfl)) ?_; (with_reducible refine (stoaref09_Decode.calls k _ _ l0 t324 t325 _ ?side1 ?side2 A11.out).mono ?_); (case side1 => repeat (first | exact (Kd.C_below HR0.out HB.out) | (with_reducible refine Kd.C_alloc ?_ _) | (with_reducible refine Kd.C_drewN ?_ _) | (with_reducible refine Kd.C_drew ?_))); (case side2 => exact HC0.out); rintro e w20 ⟨v326, rfl, ho0, hb⟩; refine ⟨_, rfl, ?_⟩; have n0_ := Aside0.mk (Kd.R_below (by (with_reducible repeat (first | apply Kd.R_alloc | apply Kd.R_drewN | apply Kd.R_drew)); exact HO307.out) hb); have n1_ := Aside0.mk (Kd.R_elder' (by (with_reducible repeat (first | apply Kd.R_alloc | apply Kd.R_drewN | apply Kd.R_drew)); exact HO315.out) (Kd.R_base ho0) hb); have n2_ := Aside0.mk (Kd.R_elder' (by (with_reducible repeat (first | apply Kd.R_alloc | apply Kd.R_drewN | apply Kd.R_drew)); exact HO323.out) (Kd.R_base ho0) hb); have n3_ := Aside0.mk (Kd.R_lower (Kd.R_new' (Kd.R_new' ho0 (Kd.R_lt (by (with_reducible repeat (first | apply Kd.R_alloc | apply Kd.R_drewN | apply Kd.R_drew)); exact HO315.out))) (Kd.R_lt (by (with_reducible repeat (first | apply Kd.R_alloc | apply Kd.R_drewN | apply Kd.R_drew)); exact HO323.out))) (below_size (by repeat (first | (with_reducible first | exact HB.out | apply below_alloc | apply pw_below_drewN | apply below_drew1) | exact HB.out)))); have n4_ := Aside0.mk (Kd.C_below (by repeat (first | (with_reducible exact HR311.out) | (with_reducible refine Kd.C_alloc ?_ _) | (with_reducible refine Kd.C_drewN ?_ _) | (with_reducible refine Kd.C_drew ?_) | exact HR311.out)) hb); have n5_ := Aside0.mk (Kd.C_below (by repeat (first | (with_reducible exact HR319.out) | (with_reducible refine Kd.C_alloc ?_ _) | (with_reducible refine Kd.C_drewN ?_ _) | (with_reducible refine Kd.C_drew ?_) | exact HR319.out)) hb); have n6_ := Aside0.mk (below_step (by repeat (first | (with_reducible first | exact HB.out | apply below_alloc | apply pw_below_drewN | apply below_drew1) | exact HB.out)) hb); clear HO307; clear HO315; clear HO323; clear HR311; clear HR319; clear HB; have HO307 := n0_; have HO315 := n1_; have HO323 := n2_; have HO327 := n3_; have HR311 := n4_; have HR319 := n5_; have HB := n6_; clear n0_ n1_ n2_ n3_ n4_ n5_ n6_; (try clear hb); (try clear hb2); (try clear hk); (try clear hi); (try clear ho0)))
    (try simp only [Act.put, List.setIfInBounds_toArray, List.set_cons_zero, List.set_cons_succ])
    go_cut [48] (fun v48 wc => ∃ (kq : Nat) (x48_11 : Bool), v48 = .bool x48_11 ∧ Aside0 (stoalaw09_PackedDecodes.j0 kq l0 t305 t324 t325 x48_11 = some r) ∧ Aside0 (kq ≤ k) ∧ Aside0 (Kd.R (Kd.int .u8) 5 wc w.heap.size (fun _ => True) (.slice Ao16 t305.length co16) t305) ∧ Aside0 (Kd.R (Kd.int .i64) 2 wc w.heap.size (fun _ => True) v326 t324) ∧ Aside0 (Below w.heap.size w wc))
    case first =>
     have H := HC12.out
     clear HC12
     by_cases c21 : t313 = t325
     ·rw [if_pos c21] at H
      have c21b0 : (t313 == t325) = true := beq_iff_eq.mpr c21
      have c21b1 : (t313 != t325) = false := bne_eq_false_iff_eq.mpr c21
      clear c21
      (first | rw [c21b0] | (simp only [i64_w, i32_w]; rw [c21b0]) | skip)
      replace H := Option.bind_eq_some_iff.mp H
      obtain ⟨⟨t328, t329⟩, A220, H⟩ := H
      replace H : (stoalaw09_PackedDecodes.j0 k l0 t305 t324 t325 (!t328)) = some r := H
      have A22 := Aside0.mk A220
      clear A220
      have H' := Aside0.mk H
      clear H
      obtain ⟨Ao23, co23, eo23⟩ := Kd.R_slice HO315.out
      subst eo23
      obtain ⟨Ao24, co24, eo24⟩ := Kd.R_slice HO323.out
      subst eo24
      obtain ⟨Ao25, co25, eo25⟩ := Kd.R_slice HO327.out
      subst eo25
      go_wp2_with (first | (go_at_call 16; (with_reducible refine (stoaref08_Apart.calls k (fun k_ => some k_ = (.slice Ao23 t312.length co23 : Value).ownBlock) (.slice Ao23 t312.length co23) t312 _ _ t320 _ _ t324 t328 t329 w _ ?side1 ?side2 ?side3 ?side4 ?side5 ?side6 A22.out).mono ?_); (case side1 => repeat (first | (with_reducible first | exact HB.out | apply below_alloc | apply pw_below_drewN | apply below_drew1) | exact HB.out)); (case side2 => exact Kd.R_tight rfl HO315.out); (case side3 => exact Kd.C_kept_own (HO323.out) (fun k_ hk_ hs_ => (hk_.1.2) hs_)); (case side4 => exact (Kd.R_reads' HO323.out).2.1); (case side5 => exact Kd.C_kept_own (HO327.out) (fun k_ hk_ hs_ => (hk_.1.2) hs_)); (case side6 => exact (Kd.R_reads' HO327.out).2.1); rintro e w26 ⟨rfl, hy0, hb, hkp⟩; have n0_ := Aside0.mk (Kd.R_mono (ok' := fun k_ => True) (Kd.R_keptB ((Kd.R_apart' HO307.out (Kd.R_typed HO315.out) (by decide))) hkp (fun k_ hk_ hs_ => (hk_.2) hs_)) (fun k_ hk_ => trivial)); have n1_ := Aside0.mk (Kd.R_reok rfl hy0 (fun k_ e_ => HO315.out.1 k_ e_)); have n2_ := Aside0.mk (Kd.R_mono (ok' := fun k_ => some k_ ≠ (.slice Ao23 t312.length co23 : Value).ownBlock ∧ some k_ ≠ (.slice Ao25 t324.length co25 : Value).ownBlock) (Kd.R_keptB (HO323.out) hkp (fun k_ hk_ hs_ => (hk_.1.2) hs_)) (fun k_ hk_ => ⟨hk_.1.1.2, hk_.1.2⟩)); have n3_ := Aside0.mk (Kd.R_mono (ok' := fun k_ => some k_ ≠ (.slice Ao23 t312.length co23 : Value).ownBlock ∧ some k_ ≠ (.slice Ao24 t320.length co24 : Value).ownBlock) (Kd.R_keptB (HO327.out) hkp (fun k_ hk_ hs_ => (hk_.1.2) hs_)) (fun k_ hk_ => ⟨hk_.1.1.2, hk_.1.2⟩)); have n4_ := Aside0.mk (hb); clear HO307; clear HO315; clear HO323; clear HO327; clear HB; have HO307 := n0_; have HO315 := n1_; have HO323 := n2_; have HO327 := n3_; have HB := n4_; clear n0_ n1_ n2_ n3_ n4_; (try clear hb); (try clear hkp); (try clear hy0)))
      go_meet
      case rel => exact ⟨_, (!t328), (by first | rfl | (simp; done) | (simp [*]; done)), H', ⟨by first | omega | exact Nat.le_refl _⟩, ⟨by (with_reducible repeat (first | apply Kd.R_alloc | apply Kd.R_drewN | apply Kd.R_drew)); exact HO307.out⟩, ⟨by (with_reducible repeat (first | apply Kd.R_alloc | apply Kd.R_drewN | apply Kd.R_drew)); exact Kd.R_mono HO327.out (fun _ hk => trivial)⟩, ⟨by repeat (first | (with_reducible first | exact HB.out | apply below_alloc | apply pw_below_drewN | apply below_drew1) | exact HB.out)⟩⟩
     ·rw [if_neg c21] at H
      have c21b0 : (t313 == t325) = false := beq_eq_false_iff_ne.mpr c21
      have c21b1 : (t313 != t325) = true := bne_iff_ne.mpr c21
      (first | rw [c21b0] | (simp only [i64_w, i32_w]; rw [c21b0]) | skip)
      have H' := Aside0.mk H
      clear H
      go_wp2
      go_meet
      case rel => exact ⟨_, (true), (by first | rfl | (simp; done) | (simp [*]; done)), H', ⟨by first | omega | exact Nat.le_refl _⟩, ⟨by (with_reducible repeat (first | apply Kd.R_alloc | apply Kd.R_drewN | apply Kd.R_drew)); exact HO307.out⟩, ⟨by (with_reducible repeat (first | apply Kd.R_alloc | apply Kd.R_drewN | apply Kd.R_drew)); exact Kd.R_mono HO327.out (fun _ hk => trivial)⟩, ⟨by repeat (first | (with_reducible first | exact HB.out | apply below_alloc | apply pw_below_drewN | apply below_drew1) | exact HB.out)⟩⟩
    case rest =>
     clear HC12
     try clear c1
     try clear q1
     try clear c2
     try clear p2
     try clear c3
     try clear c4
     try clear c5
     try clear c5b0
     try clear c5b1
     try clear c6
     try clear c6b0
     try clear c6b1
     try clear c7
     try clear c8
     try clear c8b0
     try clear c9
     try clear c9b0
     try clear c13
     try clear c14
     try clear c15
     try clear q15
     try clear q18
     try clear c21
     try clear c21b0
     try clear c21b1
     try clear q15
     try clear q18
     obtain ⟨kq, x48_11, rfl, HA, HJ11, HO_3, HO_8, HB⟩ := hcut
     cases kq with
     | zero => exact absurd HA.out (by simp [stoalaw09_PackedDecodes.j0])
     | succ kj11 =>
      have H := HA.out
      clear HA
      simp only [stoalaw09_PackedDecodes.j0] at H
      by_cases c27 : x48_11 = true
      ·subst c27
       have H1 : (some false) = some r := by rw [if_pos rfl] at H; exact H
       clear H
       have H := H1
       clear H1
       obtain rfl := Option.some.inj H
       go_wp2
       go_ret
       exact ⟨by first | rfl | (simp [errW_none, errW_some] <;> rfl) | (simp [*, errW_none, errW_some] <;> rfl), by repeat (first | (with_reducible first | exact HB.out | apply below_alloc | apply pw_below_drewN | apply below_drew1) | exact HB.out)⟩
      ·replace c27 := Bool.eq_false_iff.mpr c27
       subst c27
       have H1 : (if 0 ≤ (l0.length : Int) then (if (l0.length : Int) ≤ (t305.length : Int) then ((packed_Range.f kj11 (t305.take ((l0.length : Int) : Int).toNat)).bind fun bt334 => ((stoaref01_Intact.f kj11 t305 l0).bind fun t338 => (if t338 = true then (if t325 = 0 then (if (t324.length : Int) = 0 then (if bt334.2.2.2 = 1 then (if bt334.1 = 0 then (if bt334.2.1 = 0 then (some (bt334.2.2.1 == 0)) else (some false)) else (some false)) else (some false)) else (if bt334.2.2.2 = 0 then ((stoaref09_Least.f kj11 t324).bind fun t339 => (if bt334.1 = t339 then ((stoaref09_Greatest.f kj11 t324).bind fun t340 => (if bt334.2.1 = t340 then (some (bt334.2.2.1 == (t324.length : Int))) else (some false))) else (some false))) else (some false))) else (if bt334.2.2.2 = t325 then (if bt334.1 = 0 then (if bt334.2.1 = 0 then (some (bt334.2.2.1 == 0)) else (some false)) else (some false)) else (some false))) else (some false)))) else (none)) else (none)) = some r := by rw [if_neg (show ¬ (false = true) by decide)] at H; exact H
       clear H
       have H := H1
       clear H1
       by_cases c28 : 0 ≤ (l0.length : Int)
       ·rw [if_pos c28] at H
        have c28b0 := eq_true c28
        have c28b1 : decide (0 ≤ (l0.length : Int)) = true := decide_eq_true c28
        clear c28
        by_cases c29 : (l0.length : Int) ≤ (t305.length : Int)
        ·rw [if_pos c29] at H
         have c29b0 := eq_true c29
         have c29b1 : decide ((l0.length : Int) ≤ (t305.length : Int)) = true := decide_eq_true c29
         clear c29
         replace H : ((packed_Range.f kj11 y308).bind fun bt334 => ((stoaref01_Intact.f kj11 t305 l0).bind fun t338 => (if t338 = true then (if t325 = 0 then (if (t324.length : Int) = 0 then (if bt334.2.2.2 = 1 then (if bt334.1 = 0 then (if bt334.2.1 = 0 then (some (bt334.2.2.1 == 0)) else (some false)) else (some false)) else (some false)) else (if bt334.2.2.2 = 0 then ((stoaref09_Least.f kj11 t324).bind fun t339 => (if bt334.1 = t339 then ((stoaref09_Greatest.f kj11 t324).bind fun t340 => (if bt334.2.1 = t340 then (some (bt334.2.2.1 == (t324.length : Int))) else (some false))) else (some false))) else (some false))) else (if bt334.2.2.2 = t325 then (if bt334.1 = 0 then (if bt334.2.1 = 0 then (some (bt334.2.2.1 == 0)) else (some false)) else (some false)) else (some false))) else (some false)))) = some r := by first | (rw [Ny308.out]; with_reducible exact H) | (have H2_ := (Option.bind_some _ _).symm.trans H; rw [Ny308.out]; with_reducible exact H2_) | (have H2_ := (Option.bind_some _ _).symm.trans H; with_reducible exact H2_) | with_reducible exact H | (rw [Ny308.out]; exact H) | exact H
         replace H := Option.bind_eq_some_iff.mp H
         obtain ⟨⟨t334, t335, t336, t337⟩, A300, H⟩ := H
         replace H : ((stoaref01_Intact.f kj11 t305 l0).bind fun t338 => (if t338 = true then (if t325 = 0 then (if (t324.length : Int) = 0 then (if t337 = 1 then (if t334 = 0 then (if t335 = 0 then (some (t336 == 0)) else (some false)) else (some false)) else (some false)) else (if t337 = 0 then ((stoaref09_Least.f kj11 t324).bind fun t339 => (if t334 = t339 then ((stoaref09_Greatest.f kj11 t324).bind fun t340 => (if t335 = t340 then (some (t336 == (t324.length : Int))) else (some false))) else (some false))) else (some false))) else (if t337 = t325 then (if t334 = 0 then (if t335 = 0 then (some (t336 == 0)) else (some false)) else (some false)) else (some false))) else (some false))) = some r := H
         have A30 := Aside0.mk A300
         clear A300
         replace H := Option.bind_eq_some_iff.mp H
         obtain ⟨t338, A310, H⟩ := H
         replace H : (if t338 = true then (if t325 = 0 then (if (t324.length : Int) = 0 then (if t337 = 1 then (if t334 = 0 then (if t335 = 0 then (some (t336 == 0)) else (some false)) else (some false)) else (some false)) else (if t337 = 0 then ((stoaref09_Least.f kj11 t324).bind fun t339 => (if t334 = t339 then ((stoaref09_Greatest.f kj11 t324).bind fun t340 => (if t335 = t340 then (some (t336 == (t324.length : Int))) else (some false))) else (some false))) else (some false))) else (if t337 = t325 then (if t334 = 0 then (if t335 = 0 then (some (t336 == 0)) else (some false)) else (some false)) else (some false))) else (some false)) = some r := H
         have A31 := Aside0.mk A310
         clear A310
         by_cases c32 : t338 = true
         ·subst c32
          have H1 : (if t325 = 0 then (if (t324.length : Int) = 0 then (if t337 = 1 then (if t334 = 0 then (if t335 = 0 then (some (t336 == 0)) else (some false)) else (some false)) else (some false)) else (if t337 = 0 then ((stoaref09_Least.f kj11 t324).bind fun t339 => (if t334 = t339 then ((stoaref09_Greatest.f kj11 t324).bind fun t340 => (if t335 = t340 then (some (t336 == (t324.length : Int))) else (some false))) else (some false))) else (some false))) else (if t337 = t325 then (if t334 = 0 then (if t335 = 0 then (some (t336 == 0)) else (some false)) else (some false)) else (some false))) = some r := by rw [if_pos rfl] at H; exact H
          clear H
          have H := H1
          clear H1
          by_cases c33 : t325 = 0
          ·rw [if_pos c33] at H
           have c33b0 : (t325 == 0) = true := beq_iff_eq.mpr c33
           have c33b1 : (t325 != 0) = false := bne_eq_false_iff_eq.mpr c33
           clear c33
           by_cases c34 : (t324.length : Int) = 0
           ·rw [if_pos c34] at H
            have c34b0 : ((t324.length : Int) == 0) = true := beq_iff_eq.mpr c34
            have c34b1 : ((t324.length : Int) != 0) = false := bne_eq_false_iff_eq.mpr c34
            clear c34
            by_cases c35 : t337 = 1
            ·rw [if_pos c35] at H
             have c35b0 : (t337 == 1) = true := beq_iff_eq.mpr c35
             have c35b1 : (t337 != 1) = false := bne_eq_false_iff_eq.mpr c35
             clear c35
             by_cases c36 : t334 = 0
             ·rw [if_pos c36] at H
              have c36b0 : (t334 == 0) = true := beq_iff_eq.mpr c36
              have c36b1 : (t334 != 0) = false := bne_eq_false_iff_eq.mpr c36
              clear c36
              by_cases c37 : t335 = 0
              ·rw [if_pos c37] at H
               have c37b0 : (t335 == 0) = true := beq_iff_eq.mpr c37
               have c37b1 : (t335 != 0) = false := bne_eq_false_iff_eq.mpr c37
               clear c37
               obtain rfl := Option.some.inj H
               have q38 : ((l0.length : Int) : Int) ≤ ((t305.length : Int) : Int) := of_decide_eq_true (by first | (with_reducible assumption) | assumption)
               obtain ⟨i038, hi038, _, hsz38, _⟩ := info_parts info5
               have hroom38 : t305.length ≤ co16 := (Kd.R_reads' HO_3.out).2.1
               have hC38 : Kd.C (Kd.int .u8) _ Ao16 t305.length t305 := (Kd.R_reads' HO_3.out).2.2
               have hcut38 := cut_to (P := Try.prog) 25 5 .i64 Try.underlying25 hi038 Ao16 t305.length co16 (l0.length : Int) (of_decide_eq_true (by first | (with_reducible assumption) | assumption)) q38 hroom38
               have hr38 := Kd.C_take (m := ((l0.length : Int) : Int).toNat) hC38 (by omega)
               have hy38 : y308.length = ((l0.length : Int) : Int).toNat := (by rw [Ny308.out, List.length_take]; omega)
               rw [← Ny308.out] at hr38
               rw [← hy38] at hcut38
               have HR333 := Aside0.mk hr38
               have HC333 := Aside0.mk (show y308.length ≤ co16 from by omega)
               clear hr38 hC38 hroom38 hi038 hsz38
               have KY38 := Aside0.mk hy38
               clear hy38
               have KL38 := Aside0.mk (show ((l0.length : Int) : Int).toNat ≤ t305.length from by omega)
               replace q38 := eq_true q38
               go_wp2_with (first | ((with_reducible refine gate_callee (f := 17) rfl ?_); refine goesL_ (some 54) rfl rfl Try.func17 (by kernel_rfl) rfl #[.slice Ao16 y308.length co16] rfl (by (try simp only [List.map_toArray, List.map_cons, List.map_nil]); first | done | rfl | (simp only [List.length_drop, List.length_take]; rfl)) ?_; (with_reducible refine (packed_Range.calls kj11 _ _ y308 t334 t335 t336 t337 _ ?side1 ?side2 A30.out).mono ?_); (case side1 => repeat (first | exact (by repeat (first | (with_reducible exact HR333.out) | (with_reducible refine Kd.C_alloc ?_ _) | (with_reducible refine Kd.C_drewN ?_ _) | (with_reducible refine Kd.C_drew ?_) | exact HR333.out)) | (with_reducible refine Kd.C_alloc ?_ _) | (with_reducible refine Kd.C_drewN ?_ _) | (with_reducible refine Kd.C_drew ?_))); (case side2 => exact HC333.out); rintro e w39 ⟨rfl, hb⟩; refine ⟨_, rfl, ?_⟩; have n0_ := Aside0.mk (Kd.R_below (by (with_reducible repeat (first | apply Kd.R_alloc | apply Kd.R_drewN | apply Kd.R_drew)); exact HO_3.out) hb); have n1_ := Aside0.mk (Kd.R_below (by (with_reducible repeat (first | apply Kd.R_alloc | apply Kd.R_drewN | apply Kd.R_drew)); exact HO_8.out) hb); have n2_ := Aside0.mk (Kd.C_below (by repeat (first | (with_reducible exact HR333.out) | (with_reducible refine Kd.C_alloc ?_ _) | (with_reducible refine Kd.C_drewN ?_ _) | (with_reducible refine Kd.C_drew ?_) | exact HR333.out)) hb); have n3_ := Aside0.mk (below_step (by repeat (first | (with_reducible first | exact HB.out | apply below_alloc | apply pw_below_drewN | apply below_drew1) | exact HB.out)) hb); clear HO_3; clear HO_8; clear HR333; clear HB; have HO_3 := n0_; have HO_8 := n1_; have HR333 := n2_; have HB := n3_; clear n0_ n1_ n2_ n3_; (try clear hb); (try clear hb2); (try clear hk); (try clear hi)) | ((with_reducible refine gate_callee (f := 18) rfl ?_); refine goesL_ (some 61) rfl rfl Try.func18 (by kernel_rfl) rfl #[.slice Ao16 t305.length co16, .slice A0 l0.length c0] rfl (by (try simp only [List.map_toArray, List.map_cons, List.map_nil]); first | done | rfl | (simp only [List.length_drop, List.length_take]; rfl)) ?_; (with_reducible refine (stoaref01_Intact.calls kj11 _ _ t305 _ _ l0 true _ ?side1 ?side2 ?side3 ?side4 A31.out).mono ?_); (case side1 => repeat (first | exact (Kd.R_reads' HO_3.out).2.2 | (with_reducible refine Kd.C_alloc ?_ _) | (with_reducible refine Kd.C_drewN ?_ _) | (with_reducible refine Kd.C_drew ?_))); (case side2 => exact (Kd.R_reads' HO_3.out).2.1); (case side3 => repeat (first | exact (Kd.C_below HR0.out HB.out) | (with_reducible refine Kd.C_alloc ?_ _) | (with_reducible refine Kd.C_drewN ?_ _) | (with_reducible refine Kd.C_drew ?_))); (case side4 => exact HC0.out); rintro e w' ⟨rfl, ⟨nd, rfl⟩⟩; refine ⟨_, rfl, ?_⟩; obtain ⟨Ao40, co40, eo40⟩ := Kd.R_slice HO_8.out; subst eo40))
               go_ret
               exact ⟨by first | rfl | (simp [errW_none, errW_some] <;> rfl) | (simp [*, errW_none, errW_some] <;> rfl), by repeat (first | (with_reducible first | exact HB.out | apply below_alloc | apply pw_below_drewN | apply below_drew1) | exact HB.out)⟩
              ·rw [if_neg c37] at H
               have c37b0 : (t335 == 0) = false := beq_eq_false_iff_ne.mpr c37
               have c37b1 : (t335 != 0) = true := bne_iff_ne.mpr c37
               obtain rfl := Option.some.inj H
               have q41 : ((l0.length : Int) : Int) ≤ ((t305.length : Int) : Int) := of_decide_eq_true (by first | (with_reducible assumption) | assumption)
               obtain ⟨i041, hi041, _, hsz41, _⟩ := info_parts info5
               have hroom41 : t305.length ≤ co16 := (Kd.R_reads' HO_3.out).2.1
               have hC41 : Kd.C (Kd.int .u8) _ Ao16 t305.length t305 := (Kd.R_reads' HO_3.out).2.2
               have hcut41 := cut_to (P := Try.prog) 25 5 .i64 Try.underlying25 hi041 Ao16 t305.length co16 (l0.length : Int) (of_decide_eq_true (by first | (with_reducible assumption) | assumption)) q41 hroom41
               have hr41 := Kd.C_take (m := ((l0.length : Int) : Int).toNat) hC41 (by omega)
               have hy41 : y308.length = ((l0.length : Int) : Int).toNat := (by rw [Ny308.out, List.length_take]; omega)
               rw [← Ny308.out] at hr41
               rw [← hy41] at hcut41
               have HR333 := Aside0.mk hr41
               have HC333 := Aside0.mk (show y308.length ≤ co16 from by omega)
               clear hr41 hC41 hroom41 hi041 hsz41
               have KY41 := Aside0.mk hy41
               clear hy41
               have KL41 := Aside0.mk (show ((l0.length : Int) : Int).toNat ≤ t305.length from by omega)
               replace q41 := eq_true q41
               go_wp2_with (first | ((with_reducible refine gate_callee (f := 17) rfl ?_); refine goesL_ (some 54) rfl rfl Try.func17 (by kernel_rfl) rfl #[.slice Ao16 y308.length co16] rfl (by (try simp only [List.map_toArray, List.map_cons, List.map_nil]); first | done | rfl | (simp only [List.length_drop, List.length_take]; rfl)) ?_; (with_reducible refine (packed_Range.calls kj11 _ _ y308 t334 t335 t336 t337 _ ?side1 ?side2 A30.out).mono ?_); (case side1 => repeat (first | exact (by repeat (first | (with_reducible exact HR333.out) | (with_reducible refine Kd.C_alloc ?_ _) | (with_reducible refine Kd.C_drewN ?_ _) | (with_reducible refine Kd.C_drew ?_) | exact HR333.out)) | (with_reducible refine Kd.C_alloc ?_ _) | (with_reducible refine Kd.C_drewN ?_ _) | (with_reducible refine Kd.C_drew ?_))); (case side2 => exact HC333.out); rintro e w42 ⟨rfl, hb⟩; refine ⟨_, rfl, ?_⟩; have n0_ := Aside0.mk (Kd.R_below (by (with_reducible repeat (first | apply Kd.R_alloc | apply Kd.R_drewN | apply Kd.R_drew)); exact HO_3.out) hb); have n1_ := Aside0.mk (Kd.R_below (by (with_reducible repeat (first | apply Kd.R_alloc | apply Kd.R_drewN | apply Kd.R_drew)); exact HO_8.out) hb); have n2_ := Aside0.mk (Kd.C_below (by repeat (first | (with_reducible exact HR333.out) | (with_reducible refine Kd.C_alloc ?_ _) | (with_reducible refine Kd.C_drewN ?_ _) | (with_reducible refine Kd.C_drew ?_) | exact HR333.out)) hb); have n3_ := Aside0.mk (below_step (by repeat (first | (with_reducible first | exact HB.out | apply below_alloc | apply pw_below_drewN | apply below_drew1) | exact HB.out)) hb); clear HO_3; clear HO_8; clear HR333; clear HB; have HO_3 := n0_; have HO_8 := n1_; have HR333 := n2_; have HB := n3_; clear n0_ n1_ n2_ n3_; (try clear hb); (try clear hb2); (try clear hk); (try clear hi)) | ((with_reducible refine gate_callee (f := 18) rfl ?_); refine goesL_ (some 61) rfl rfl Try.func18 (by kernel_rfl) rfl #[.slice Ao16 t305.length co16, .slice A0 l0.length c0] rfl (by (try simp only [List.map_toArray, List.map_cons, List.map_nil]); first | done | rfl | (simp only [List.length_drop, List.length_take]; rfl)) ?_; (with_reducible refine (stoaref01_Intact.calls kj11 _ _ t305 _ _ l0 true _ ?side1 ?side2 ?side3 ?side4 A31.out).mono ?_); (case side1 => repeat (first | exact (Kd.R_reads' HO_3.out).2.2 | (with_reducible refine Kd.C_alloc ?_ _) | (with_reducible refine Kd.C_drewN ?_ _) | (with_reducible refine Kd.C_drew ?_))); (case side2 => exact (Kd.R_reads' HO_3.out).2.1); (case side3 => repeat (first | exact (Kd.C_below HR0.out HB.out) | (with_reducible refine Kd.C_alloc ?_ _) | (with_reducible refine Kd.C_drewN ?_ _) | (with_reducible refine Kd.C_drew ?_))); (case side4 => exact HC0.out); rintro e w' ⟨rfl, ⟨nd, rfl⟩⟩; refine ⟨_, rfl, ?_⟩; obtain ⟨Ao43, co43, eo43⟩ := Kd.R_slice HO_8.out; subst eo43))
               go_ret
               exact ⟨by first | rfl | (simp [errW_none, errW_some] <;> rfl) | (simp [*, errW_none, errW_some] <;> rfl), by repeat (first | (with_reducible first | exact HB.out | apply below_alloc | apply pw_below_drewN | apply below_drew1) | exact HB.out)⟩
             ·rw [if_neg c36] at H
              have c36b0 : (t334 == 0) = false := beq_eq_false_iff_ne.mpr c36
              have c36b1 : (t334 != 0) = true := bne_iff_ne.mpr c36
              obtain rfl := Option.some.inj H
              have q44 : ((l0.length : Int) : Int) ≤ ((t305.length : Int) : Int) := of_decide_eq_true (by first | (with_reducible assumption) | assumption)
              obtain ⟨i044, hi044, _, hsz44, _⟩ := info_parts info5
              have hroom44 : t305.length ≤ co16 := (Kd.R_reads' HO_3.out).2.1
              have hC44 : Kd.C (Kd.int .u8) _ Ao16 t305.length t305 := (Kd.R_reads' HO_3.out).2.2
              have hcut44 := cut_to (P := Try.prog) 25 5 .i64 Try.underlying25 hi044 Ao16 t305.length co16 (l0.length : Int) (of_decide_eq_true (by first | (with_reducible assumption) | assumption)) q44 hroom44
              have hr44 := Kd.C_take (m := ((l0.length : Int) : Int).toNat) hC44 (by omega)
              have hy44 : y308.length = ((l0.length : Int) : Int).toNat := (by rw [Ny308.out, List.length_take]; omega)
              rw [← Ny308.out] at hr44
              rw [← hy44] at hcut44
              have HR333 := Aside0.mk hr44
              have HC333 := Aside0.mk (show y308.length ≤ co16 from by omega)
              clear hr44 hC44 hroom44 hi044 hsz44
              have KY44 := Aside0.mk hy44
              clear hy44
              have KL44 := Aside0.mk (show ((l0.length : Int) : Int).toNat ≤ t305.length from by omega)
              replace q44 := eq_true q44
              go_wp2_with (first | ((with_reducible refine gate_callee (f := 17) rfl ?_); refine goesL_ (some 54) rfl rfl Try.func17 (by kernel_rfl) rfl #[.slice Ao16 y308.length co16] rfl (by (try simp only [List.map_toArray, List.map_cons, List.map_nil]); first | done | rfl | (simp only [List.length_drop, List.length_take]; rfl)) ?_; (with_reducible refine (packed_Range.calls kj11 _ _ y308 t334 t335 t336 t337 _ ?side1 ?side2 A30.out).mono ?_); (case side1 => repeat (first | exact (by repeat (first | (with_reducible exact HR333.out) | (with_reducible refine Kd.C_alloc ?_ _) | (with_reducible refine Kd.C_drewN ?_ _) | (with_reducible refine Kd.C_drew ?_) | exact HR333.out)) | (with_reducible refine Kd.C_alloc ?_ _) | (with_reducible refine Kd.C_drewN ?_ _) | (with_reducible refine Kd.C_drew ?_))); (case side2 => exact HC333.out); rintro e w45 ⟨rfl, hb⟩; refine ⟨_, rfl, ?_⟩; have n0_ := Aside0.mk (Kd.R_below (by (with_reducible repeat (first | apply Kd.R_alloc | apply Kd.R_drewN | apply Kd.R_drew)); exact HO_3.out) hb); have n1_ := Aside0.mk (Kd.R_below (by (with_reducible repeat (first | apply Kd.R_alloc | apply Kd.R_drewN | apply Kd.R_drew)); exact HO_8.out) hb); have n2_ := Aside0.mk (Kd.C_below (by repeat (first | (with_reducible exact HR333.out) | (with_reducible refine Kd.C_alloc ?_ _) | (with_reducible refine Kd.C_drewN ?_ _) | (with_reducible refine Kd.C_drew ?_) | exact HR333.out)) hb); have n3_ := Aside0.mk (below_step (by repeat (first | (with_reducible first | exact HB.out | apply below_alloc | apply pw_below_drewN | apply below_drew1) | exact HB.out)) hb); clear HO_3; clear HO_8; clear HR333; clear HB; have HO_3 := n0_; have HO_8 := n1_; have HR333 := n2_; have HB := n3_; clear n0_ n1_ n2_ n3_; (try clear hb); (try clear hb2); (try clear hk); (try clear hi)) | ((with_reducible refine gate_callee (f := 18) rfl ?_); refine goesL_ (some 61) rfl rfl Try.func18 (by kernel_rfl) rfl #[.slice Ao16 t305.length co16, .slice A0 l0.length c0] rfl (by (try simp only [List.map_toArray, List.map_cons, List.map_nil]); first | done | rfl | (simp only [List.length_drop, List.length_take]; rfl)) ?_; (with_reducible refine (stoaref01_Intact.calls kj11 _ _ t305 _ _ l0 true _ ?side1 ?side2 ?side3 ?side4 A31.out).mono ?_); (case side1 => repeat (first | exact (Kd.R_reads' HO_3.out).2.2 | (with_reducible refine Kd.C_alloc ?_ _) | (with_reducible refine Kd.C_drewN ?_ _) | (with_reducible refine Kd.C_drew ?_))); (case side2 => exact (Kd.R_reads' HO_3.out).2.1); (case side3 => repeat (first | exact (Kd.C_below HR0.out HB.out) | (with_reducible refine Kd.C_alloc ?_ _) | (with_reducible refine Kd.C_drewN ?_ _) | (with_reducible refine Kd.C_drew ?_))); (case side4 => exact HC0.out); rintro e w' ⟨rfl, ⟨nd, rfl⟩⟩; refine ⟨_, rfl, ?_⟩; obtain ⟨Ao46, co46, eo46⟩ := Kd.R_slice HO_8.out; subst eo46))
              go_ret
              exact ⟨by first | rfl | (simp [errW_none, errW_some] <;> rfl) | (simp [*, errW_none, errW_some] <;> rfl), by repeat (first | (with_reducible first | exact HB.out | apply below_alloc | apply pw_below_drewN | apply below_drew1) | exact HB.out)⟩
            ·rw [if_neg c35] at H
             have c35b0 : (t337 == 1) = false := beq_eq_false_iff_ne.mpr c35
             have c35b1 : (t337 != 1) = true := bne_iff_ne.mpr c35
             obtain rfl := Option.some.inj H
             have q47 : ((l0.length : Int) : Int) ≤ ((t305.length : Int) : Int) := of_decide_eq_true (by first | (with_reducible assumption) | assumption)
             obtain ⟨i047, hi047, _, hsz47, _⟩ := info_parts info5
             have hroom47 : t305.length ≤ co16 := (Kd.R_reads' HO_3.out).2.1
             have hC47 : Kd.C (Kd.int .u8) _ Ao16 t305.length t305 := (Kd.R_reads' HO_3.out).2.2
             have hcut47 := cut_to (P := Try.prog) 25 5 .i64 Try.underlying25 hi047 Ao16 t305.length co16 (l0.length : Int) (of_decide_eq_true (by first | (with_reducible assumption) | assumption)) q47 hroom47
             have hr47 := Kd.C_take (m := ((l0.length : Int) : Int).toNat) hC47 (by omega)
             have hy47 : y308.length = ((l0.length : Int) : Int).toNat := (by rw [Ny308.out, List.length_take]; omega)
             rw [← Ny308.out] at hr47
             rw [← hy47] at hcut47
             have HR333 := Aside0.mk hr47
             have HC333 := Aside0.mk (show y308.length ≤ co16 from by omega)
             clear hr47 hC47 hroom47 hi047 hsz47
             have KY47 := Aside0.mk hy47
             clear hy47
             have KL47 := Aside0.mk (show ((l0.length : Int) : Int).toNat ≤ t305.length from by omega)
             replace q47 := eq_true q47
             go_wp2_with (first | ((with_reducible refine gate_callee (f := 17) rfl ?_); refine goesL_ (some 54) rfl rfl Try.func17 (by kernel_rfl) rfl #[.slice Ao16 y308.length co16] rfl (by (try simp only [List.map_toArray, List.map_cons, List.map_nil]); first | done | rfl | (simp only [List.length_drop, List.length_take]; rfl)) ?_; (with_reducible refine (packed_Range.calls kj11 _ _ y308 t334 t335 t336 t337 _ ?side1 ?side2 A30.out).mono ?_); (case side1 => repeat (first | exact (by repeat (first | (with_reducible exact HR333.out) | (with_reducible refine Kd.C_alloc ?_ _) | (with_reducible refine Kd.C_drewN ?_ _) | (with_reducible refine Kd.C_drew ?_) | exact HR333.out)) | (with_reducible refine Kd.C_alloc ?_ _) | (with_reducible refine Kd.C_drewN ?_ _) | (with_reducible refine Kd.C_drew ?_))); (case side2 => exact HC333.out); rintro e w48 ⟨rfl, hb⟩; refine ⟨_, rfl, ?_⟩; have n0_ := Aside0.mk (Kd.R_below (by (with_reducible repeat (first | apply Kd.R_alloc | apply Kd.R_drewN | apply Kd.R_drew)); exact HO_3.out) hb); have n1_ := Aside0.mk (Kd.R_below (by (with_reducible repeat (first | apply Kd.R_alloc | apply Kd.R_drewN | apply Kd.R_drew)); exact HO_8.out) hb); have n2_ := Aside0.mk (Kd.C_below (by repeat (first | (with_reducible exact HR333.out) | (with_reducible refine Kd.C_alloc ?_ _) | (with_reducible refine Kd.C_drewN ?_ _) | (with_reducible refine Kd.C_drew ?_) | exact HR333.out)) hb); have n3_ := Aside0.mk (below_step (by repeat (first | (with_reducible first | exact HB.out | apply below_alloc | apply pw_below_drewN | apply below_drew1) | exact HB.out)) hb); clear HO_3; clear HO_8; clear HR333; clear HB; have HO_3 := n0_; have HO_8 := n1_; have HR333 := n2_; have HB := n3_; clear n0_ n1_ n2_ n3_; (try clear hb); (try clear hb2); (try clear hk); (try clear hi)) | ((with_reducible refine gate_callee (f := 18) rfl ?_); refine goesL_ (some 61) rfl rfl Try.func18 (by kernel_rfl) rfl #[.slice Ao16 t305.length co16, .slice A0 l0.length c0] rfl (by (try simp only [List.map_toArray, List.map_cons, List.map_nil]); first | done | rfl | (simp only [List.length_drop, List.length_take]; rfl)) ?_; (with_reducible refine (stoaref01_Intact.calls kj11 _ _ t305 _ _ l0 true _ ?side1 ?side2 ?side3 ?side4 A31.out).mono ?_); (case side1 => repeat (first | exact (Kd.R_reads' HO_3.out).2.2 | (with_reducible refine Kd.C_alloc ?_ _) | (with_reducible refine Kd.C_drewN ?_ _) | (with_reducible refine Kd.C_drew ?_))); (case side2 => exact (Kd.R_reads' HO_3.out).2.1); (case side3 => repeat (first | exact (Kd.C_below HR0.out HB.out) | (with_reducible refine Kd.C_alloc ?_ _) | (with_reducible refine Kd.C_drewN ?_ _) | (with_reducible refine Kd.C_drew ?_))); (case side4 => exact HC0.out); rintro e w' ⟨rfl, ⟨nd, rfl⟩⟩; refine ⟨_, rfl, ?_⟩; obtain ⟨Ao49, co49, eo49⟩ := Kd.R_slice HO_8.out; subst eo49))
             go_ret
             exact ⟨by first | rfl | (simp [errW_none, errW_some] <;> rfl) | (simp [*, errW_none, errW_some] <;> rfl), by repeat (first | (with_reducible first | exact HB.out | apply below_alloc | apply pw_below_drewN | apply below_drew1) | exact HB.out)⟩
           ·rw [if_neg c34] at H
            have c34b0 : ((t324.length : Int) == 0) = false := beq_eq_false_iff_ne.mpr c34
            have c34b1 : ((t324.length : Int) != 0) = true := bne_iff_ne.mpr c34
            have c34b2 : ¬ (t324 = []) := fun h_ => c34 (by rw [h_]; rfl)
            by_cases c50 : t337 = 0
            ·rw [if_pos c50] at H
             have c50b0 : (t337 == 0) = true := beq_iff_eq.mpr c50
             have c50b1 : (t337 != 0) = false := bne_eq_false_iff_eq.mpr c50
             clear c50
             replace H := Option.bind_eq_some_iff.mp H
             obtain ⟨t339, A510, H⟩ := H
             replace H : (if t334 = t339 then ((stoaref09_Greatest.f kj11 t324).bind fun t340 => (if t335 = t340 then (some (t336 == (t324.length : Int))) else (some false))) else (some false)) = some r := H
             have A51 := Aside0.mk A510
             clear A510
             by_cases c52 : t334 = t339
             ·rw [if_pos c52] at H
              have c52b0 : (t334 == t339) = true := beq_iff_eq.mpr c52
              have c52b1 : (t334 != t339) = false := bne_eq_false_iff_eq.mpr c52
              clear c52
              replace H := Option.bind_eq_some_iff.mp H
              obtain ⟨t340, A530, H⟩ := H
              replace H : (if t335 = t340 then (some (t336 == (t324.length : Int))) else (some false)) = some r := H
              have A53 := Aside0.mk A530
              clear A530
              by_cases c54 : t335 = t340
              ·rw [if_pos c54] at H
               have c54b0 : (t335 == t340) = true := beq_iff_eq.mpr c54
               have c54b1 : (t335 != t340) = false := bne_eq_false_iff_eq.mpr c54
               clear c54
               obtain rfl := Option.some.inj H
               have q55 : ((l0.length : Int) : Int) ≤ ((t305.length : Int) : Int) := of_decide_eq_true (by first | (with_reducible assumption) | assumption)
               obtain ⟨i055, hi055, _, hsz55, _⟩ := info_parts info5
               have hroom55 : t305.length ≤ co16 := (Kd.R_reads' HO_3.out).2.1
               have hC55 : Kd.C (Kd.int .u8) _ Ao16 t305.length t305 := (Kd.R_reads' HO_3.out).2.2
               have hcut55 := cut_to (P := Try.prog) 25 5 .i64 Try.underlying25 hi055 Ao16 t305.length co16 (l0.length : Int) (of_decide_eq_true (by first | (with_reducible assumption) | assumption)) q55 hroom55
               have hr55 := Kd.C_take (m := ((l0.length : Int) : Int).toNat) hC55 (by omega)
               have hy55 : y308.length = ((l0.length : Int) : Int).toNat := (by rw [Ny308.out, List.length_take]; omega)
               rw [← Ny308.out] at hr55
               rw [← hy55] at hcut55
               have HR333 := Aside0.mk hr55
               have HC333 := Aside0.mk (show y308.length ≤ co16 from by omega)
               clear hr55 hC55 hroom55 hi055 hsz55
               have KY55 := Aside0.mk hy55
               clear hy55
               have KL55 := Aside0.mk (show ((l0.length : Int) : Int).toNat ≤ t305.length from by omega)
               replace q55 := eq_true q55
               go_wp2_with (first | ((with_reducible refine gate_callee (f := 17) rfl ?_); refine goesL_ (some 54) rfl rfl Try.func17 (by kernel_rfl) rfl #[.slice Ao16 y308.length co16] rfl (by (try simp only [List.map_toArray, List.map_cons, List.map_nil]); first | done | rfl | (simp only [List.length_drop, List.length_take]; rfl)) ?_; (with_reducible refine (packed_Range.calls kj11 _ _ y308 t334 t335 t336 t337 _ ?side1 ?side2 A30.out).mono ?_); (case side1 => repeat (first | exact (by repeat (first | (with_reducible exact HR333.out) | (with_reducible refine Kd.C_alloc ?_ _) | (with_reducible refine Kd.C_drewN ?_ _) | (with_reducible refine Kd.C_drew ?_) | exact HR333.out)) | (with_reducible refine Kd.C_alloc ?_ _) | (with_reducible refine Kd.C_drewN ?_ _) | (with_reducible refine Kd.C_drew ?_))); (case side2 => exact HC333.out); rintro e w56 ⟨rfl, hb⟩; refine ⟨_, rfl, ?_⟩; have n0_ := Aside0.mk (Kd.R_below (by (with_reducible repeat (first | apply Kd.R_alloc | apply Kd.R_drewN | apply Kd.R_drew)); exact HO_3.out) hb); have n1_ := Aside0.mk (Kd.R_below (by (with_reducible repeat (first | apply Kd.R_alloc | apply Kd.R_drewN | apply Kd.R_drew)); exact HO_8.out) hb); have n2_ := Aside0.mk (Kd.C_below (by repeat (first | (with_reducible exact HR333.out) | (with_reducible refine Kd.C_alloc ?_ _) | (with_reducible refine Kd.C_drewN ?_ _) | (with_reducible refine Kd.C_drew ?_) | exact HR333.out)) hb); have n3_ := Aside0.mk (below_step (by repeat (first | (with_reducible first | exact HB.out | apply below_alloc | apply pw_below_drewN | apply below_drew1) | exact HB.out)) hb); clear HO_3; clear HO_8; clear HR333; clear HB; have HO_3 := n0_; have HO_8 := n1_; have HR333 := n2_; have HB := n3_; clear n0_ n1_ n2_ n3_; (try clear hb); (try clear hb2); (try clear hk); (try clear hi)) | ((with_reducible refine gate_callee (f := 18) rfl ?_); refine goesL_ (some 61) rfl rfl Try.func18 (by kernel_rfl) rfl #[.slice Ao16 t305.length co16, .slice A0 l0.length c0] rfl (by (try simp only [List.map_toArray, List.map_cons, List.map_nil]); first | done | rfl | (simp only [List.length_drop, List.length_take]; rfl)) ?_; (with_reducible refine (stoaref01_Intact.calls kj11 _ _ t305 _ _ l0 true _ ?side1 ?side2 ?side3 ?side4 A31.out).mono ?_); (case side1 => repeat (first | exact (Kd.R_reads' HO_3.out).2.2 | (with_reducible refine Kd.C_alloc ?_ _) | (with_reducible refine Kd.C_drewN ?_ _) | (with_reducible refine Kd.C_drew ?_))); (case side2 => exact (Kd.R_reads' HO_3.out).2.1); (case side3 => repeat (first | exact (Kd.C_below HR0.out HB.out) | (with_reducible refine Kd.C_alloc ?_ _) | (with_reducible refine Kd.C_drewN ?_ _) | (with_reducible refine Kd.C_drew ?_))); (case side4 => exact HC0.out); rintro e w' ⟨rfl, ⟨nd, rfl⟩⟩; refine ⟨_, rfl, ?_⟩; obtain ⟨Ao57, co57, eo57⟩ := Kd.R_slice HO_8.out; subst eo57) | (go_at_call 19; (with_reducible refine (stoaref09_Least.calls kj11 _ _ t324 t339 _ ?side1 ?side2 A51.out).mono ?_); (case side1 => repeat (first | exact (Kd.R_reads' HO_8.out).2.2 | (with_reducible refine Kd.C_alloc ?_ _) | (with_reducible refine Kd.C_drewN ?_ _) | (with_reducible refine Kd.C_drew ?_))); (case side2 => exact (Kd.R_reads' HO_8.out).2.1); rintro e w' ⟨rfl, ⟨nd, rfl⟩⟩) | (go_at_call 20; (with_reducible refine (stoaref09_Greatest.calls kj11 _ _ t324 t340 _ ?side1 ?side2 A53.out).mono ?_); (case side1 => repeat (first | exact (Kd.R_reads' HO_8.out).2.2 | (with_reducible refine Kd.C_alloc ?_ _) | (with_reducible refine Kd.C_drewN ?_ _) | (with_reducible refine Kd.C_drew ?_))); (case side2 => exact (Kd.R_reads' HO_8.out).2.1); rintro e w' ⟨rfl, ⟨nd, rfl⟩⟩))
               go_ret
               exact ⟨by first | rfl | (simp [errW_none, errW_some] <;> rfl) | (simp [*, errW_none, errW_some] <;> rfl), by repeat (first | (with_reducible first | exact HB.out | apply below_alloc | apply pw_below_drewN | apply below_drew1) | exact HB.out)⟩
              ·rw [if_neg c54] at H
               have c54b0 : (t335 == t340) = false := beq_eq_false_iff_ne.mpr c54
               have c54b1 : (t335 != t340) = true := bne_iff_ne.mpr c54
               obtain rfl := Option.some.inj H
               have q58 : ((l0.length : Int) : Int) ≤ ((t305.length : Int) : Int) := of_decide_eq_true (by first | (with_reducible assumption) | assumption)
               obtain ⟨i058, hi058, _, hsz58, _⟩ := info_parts info5
               have hroom58 : t305.length ≤ co16 := (Kd.R_reads' HO_3.out).2.1
               have hC58 : Kd.C (Kd.int .u8) _ Ao16 t305.length t305 := (Kd.R_reads' HO_3.out).2.2
               have hcut58 := cut_to (P := Try.prog) 25 5 .i64 Try.underlying25 hi058 Ao16 t305.length co16 (l0.length : Int) (of_decide_eq_true (by first | (with_reducible assumption) | assumption)) q58 hroom58
               have hr58 := Kd.C_take (m := ((l0.length : Int) : Int).toNat) hC58 (by omega)
               have hy58 : y308.length = ((l0.length : Int) : Int).toNat := (by rw [Ny308.out, List.length_take]; omega)
               rw [← Ny308.out] at hr58
               rw [← hy58] at hcut58
               have HR333 := Aside0.mk hr58
               have HC333 := Aside0.mk (show y308.length ≤ co16 from by omega)
               clear hr58 hC58 hroom58 hi058 hsz58
               have KY58 := Aside0.mk hy58
               clear hy58
               have KL58 := Aside0.mk (show ((l0.length : Int) : Int).toNat ≤ t305.length from by omega)
               replace q58 := eq_true q58
               go_wp2_with (first | ((with_reducible refine gate_callee (f := 17) rfl ?_); refine goesL_ (some 54) rfl rfl Try.func17 (by kernel_rfl) rfl #[.slice Ao16 y308.length co16] rfl (by (try simp only [List.map_toArray, List.map_cons, List.map_nil]); first | done | rfl | (simp only [List.length_drop, List.length_take]; rfl)) ?_; (with_reducible refine (packed_Range.calls kj11 _ _ y308 t334 t335 t336 t337 _ ?side1 ?side2 A30.out).mono ?_); (case side1 => repeat (first | exact (by repeat (first | (with_reducible exact HR333.out) | (with_reducible refine Kd.C_alloc ?_ _) | (with_reducible refine Kd.C_drewN ?_ _) | (with_reducible refine Kd.C_drew ?_) | exact HR333.out)) | (with_reducible refine Kd.C_alloc ?_ _) | (with_reducible refine Kd.C_drewN ?_ _) | (with_reducible refine Kd.C_drew ?_))); (case side2 => exact HC333.out); rintro e w59 ⟨rfl, hb⟩; refine ⟨_, rfl, ?_⟩; have n0_ := Aside0.mk (Kd.R_below (by (with_reducible repeat (first | apply Kd.R_alloc | apply Kd.R_drewN | apply Kd.R_drew)); exact HO_3.out) hb); have n1_ := Aside0.mk (Kd.R_below (by (with_reducible repeat (first | apply Kd.R_alloc | apply Kd.R_drewN | apply Kd.R_drew)); exact HO_8.out) hb); have n2_ := Aside0.mk (Kd.C_below (by repeat (first | (with_reducible exact HR333.out) | (with_reducible refine Kd.C_alloc ?_ _) | (with_reducible refine Kd.C_drewN ?_ _) | (with_reducible refine Kd.C_drew ?_) | exact HR333.out)) hb); have n3_ := Aside0.mk (below_step (by repeat (first | (with_reducible first | exact HB.out | apply below_alloc | apply pw_below_drewN | apply below_drew1) | exact HB.out)) hb); clear HO_3; clear HO_8; clear HR333; clear HB; have HO_3 := n0_; have HO_8 := n1_; have HR333 := n2_; have HB := n3_; clear n0_ n1_ n2_ n3_; (try clear hb); (try clear hb2); (try clear hk); (try clear hi)) | ((with_reducible refine gate_callee (f := 18) rfl ?_); refine goesL_ (some 61) rfl rfl Try.func18 (by kernel_rfl) rfl #[.slice Ao16 t305.length co16, .slice A0 l0.length c0] rfl (by (try simp only [List.map_toArray, List.map_cons, List.map_nil]); first | done | rfl | (simp only [List.length_drop, List.length_take]; rfl)) ?_; (with_reducible refine (stoaref01_Intact.calls kj11 _ _ t305 _ _ l0 true _ ?side1 ?side2 ?side3 ?side4 A31.out).mono ?_); (case side1 => repeat (first | exact (Kd.R_reads' HO_3.out).2.2 | (with_reducible refine Kd.C_alloc ?_ _) | (with_reducible refine Kd.C_drewN ?_ _) | (with_reducible refine Kd.C_drew ?_))); (case side2 => exact (Kd.R_reads' HO_3.out).2.1); (case side3 => repeat (first | exact (Kd.C_below HR0.out HB.out) | (with_reducible refine Kd.C_alloc ?_ _) | (with_reducible refine Kd.C_drewN ?_ _) | (with_reducible refine Kd.C_drew ?_))); (case side4 => exact HC0.out); rintro e w' ⟨rfl, ⟨nd, rfl⟩⟩; refine ⟨_, rfl, ?_⟩; obtain ⟨Ao60, co60, eo60⟩ := Kd.R_slice HO_8.out; subst eo60) | (go_at_call 19; (with_reducible refine (stoaref09_Least.calls kj11 _ _ t324 t339 _ ?side1 ?side2 A51.out).mono ?_); (case side1 => repeat (first | exact (Kd.R_reads' HO_8.out).2.2 | (with_reducible refine Kd.C_alloc ?_ _) | (with_reducible refine Kd.C_drewN ?_ _) | (with_reducible refine Kd.C_drew ?_))); (case side2 => exact (Kd.R_reads' HO_8.out).2.1); rintro e w' ⟨rfl, ⟨nd, rfl⟩⟩) | (go_at_call 20; (with_reducible refine (stoaref09_Greatest.calls kj11 _ _ t324 t340 _ ?side1 ?side2 A53.out).mono ?_); (case side1 => repeat (first | exact (Kd.R_reads' HO_8.out).2.2 | (with_reducible refine Kd.C_alloc ?_ _) | (with_reducible refine Kd.C_drewN ?_ _) | (with_reducible refine Kd.C_drew ?_))); (case side2 => exact (Kd.R_reads' HO_8.out).2.1); rintro e w' ⟨rfl, ⟨nd, rfl⟩⟩))
               go_ret
               exact ⟨by first | rfl | (simp [errW_none, errW_some] <;> rfl) | (simp [*, errW_none, errW_some] <;> rfl), by repeat (first | (with_reducible first | exact HB.out | apply below_alloc | apply pw_below_drewN | apply below_drew1) | exact HB.out)⟩
             ·rw [if_neg c52] at H
              have c52b0 : (t334 == t339) = false := beq_eq_false_iff_ne.mpr c52
              have c52b1 : (t334 != t339) = true := bne_iff_ne.mpr c52
              obtain rfl := Option.some.inj H
              have q61 : ((l0.length : Int) : Int) ≤ ((t305.length : Int) : Int) := of_decide_eq_true (by first | (with_reducible assumption) | assumption)
              obtain ⟨i061, hi061, _, hsz61, _⟩ := info_parts info5
              have hroom61 : t305.length ≤ co16 := (Kd.R_reads' HO_3.out).2.1
              have hC61 : Kd.C (Kd.int .u8) _ Ao16 t305.length t305 := (Kd.R_reads' HO_3.out).2.2
              have hcut61 := cut_to (P := Try.prog) 25 5 .i64 Try.underlying25 hi061 Ao16 t305.length co16 (l0.length : Int) (of_decide_eq_true (by first | (with_reducible assumption) | assumption)) q61 hroom61
              have hr61 := Kd.C_take (m := ((l0.length : Int) : Int).toNat) hC61 (by omega)
              have hy61 : y308.length = ((l0.length : Int) : Int).toNat := (by rw [Ny308.out, List.length_take]; omega)
              rw [← Ny308.out] at hr61
              rw [← hy61] at hcut61
              have HR333 := Aside0.mk hr61
              have HC333 := Aside0.mk (show y308.length ≤ co16 from by omega)
              clear hr61 hC61 hroom61 hi061 hsz61
              have KY61 := Aside0.mk hy61
              clear hy61
              have KL61 := Aside0.mk (show ((l0.length : Int) : Int).toNat ≤ t305.length from by omega)
              replace q61 := eq_true q61
              go_wp2_with (first | ((with_reducible refine gate_callee (f := 17) rfl ?_); refine goesL_ (some 54) rfl rfl Try.func17 (by kernel_rfl) rfl #[.slice Ao16 y308.length co16] rfl (by (try simp only [List.map_toArray, List.map_cons, List.map_nil]); first | done | rfl | (simp only [List.length_drop, List.length_take]; rfl)) ?_; (with_reducible refine (packed_Range.calls kj11 _ _ y308 t334 t335 t336 t337 _ ?side1 ?side2 A30.out).mono ?_); (case side1 => repeat (first | exact (by repeat (first | (with_reducible exact HR333.out) | (with_reducible refine Kd.C_alloc ?_ _) | (with_reducible refine Kd.C_drewN ?_ _) | (with_reducible refine Kd.C_drew ?_) | exact HR333.out)) | (with_reducible refine Kd.C_alloc ?_ _) | (with_reducible refine Kd.C_drewN ?_ _) | (with_reducible refine Kd.C_drew ?_))); (case side2 => exact HC333.out); rintro e w62 ⟨rfl, hb⟩; refine ⟨_, rfl, ?_⟩; have n0_ := Aside0.mk (Kd.R_below (by (with_reducible repeat (first | apply Kd.R_alloc | apply Kd.R_drewN | apply Kd.R_drew)); exact HO_3.out) hb); have n1_ := Aside0.mk (Kd.R_below (by (with_reducible repeat (first | apply Kd.R_alloc | apply Kd.R_drewN | apply Kd.R_drew)); exact HO_8.out) hb); have n2_ := Aside0.mk (Kd.C_below (by repeat (first | (with_reducible exact HR333.out) | (with_reducible refine Kd.C_alloc ?_ _) | (with_reducible refine Kd.C_drewN ?_ _) | (with_reducible refine Kd.C_drew ?_) | exact HR333.out)) hb); have n3_ := Aside0.mk (below_step (by repeat (first | (with_reducible first | exact HB.out | apply below_alloc | apply pw_below_drewN | apply below_drew1) | exact HB.out)) hb); clear HO_3; clear HO_8; clear HR333; clear HB; have HO_3 := n0_; have HO_8 := n1_; have HR333 := n2_; have HB := n3_; clear n0_ n1_ n2_ n3_; (try clear hb); (try clear hb2); (try clear hk); (try clear hi)) | ((with_reducible refine gate_callee (f := 18) rfl ?_); refine goesL_ (some 61) rfl rfl Try.func18 (by kernel_rfl) rfl #[.slice Ao16 t305.length co16, .slice A0 l0.length c0] rfl (by (try simp only [List.map_toArray, List.map_cons, List.map_nil]); first | done | rfl | (simp only [List.length_drop, List.length_take]; rfl)) ?_; (with_reducible refine (stoaref01_Intact.calls kj11 _ _ t305 _ _ l0 true _ ?side1 ?side2 ?side3 ?side4 A31.out).mono ?_); (case side1 => repeat (first | exact (Kd.R_reads' HO_3.out).2.2 | (with_reducible refine Kd.C_alloc ?_ _) | (with_reducible refine Kd.C_drewN ?_ _) | (with_reducible refine Kd.C_drew ?_))); (case side2 => exact (Kd.R_reads' HO_3.out).2.1); (case side3 => repeat (first | exact (Kd.C_below HR0.out HB.out) | (with_reducible refine Kd.C_alloc ?_ _) | (with_reducible refine Kd.C_drewN ?_ _) | (with_reducible refine Kd.C_drew ?_))); (case side4 => exact HC0.out); rintro e w' ⟨rfl, ⟨nd, rfl⟩⟩; refine ⟨_, rfl, ?_⟩; obtain ⟨Ao63, co63, eo63⟩ := Kd.R_slice HO_8.out; subst eo63) | (go_at_call 19; (with_reducible refine (stoaref09_Least.calls kj11 _ _ t324 t339 _ ?side1 ?side2 A51.out).mono ?_); (case side1 => repeat (first | exact (Kd.R_reads' HO_8.out).2.2 | (with_reducible refine Kd.C_alloc ?_ _) | (with_reducible refine Kd.C_drewN ?_ _) | (with_reducible refine Kd.C_drew ?_))); (case side2 => exact (Kd.R_reads' HO_8.out).2.1); rintro e w' ⟨rfl, ⟨nd, rfl⟩⟩))
              go_ret
              exact ⟨by first | rfl | (simp [errW_none, errW_some] <;> rfl) | (simp [*, errW_none, errW_some] <;> rfl), by repeat (first | (with_reducible first | exact HB.out | apply below_alloc | apply pw_below_drewN | apply below_drew1) | exact HB.out)⟩
            ·rw [if_neg c50] at H
             have c50b0 : (t337 == 0) = false := beq_eq_false_iff_ne.mpr c50
             have c50b1 : (t337 != 0) = true := bne_iff_ne.mpr c50
             obtain rfl := Option.some.inj H
             have q64 : ((l0.length : Int) : Int) ≤ ((t305.length : Int) : Int) := of_decide_eq_true (by first | (with_reducible assumption) | assumption)
             obtain ⟨i064, hi064, _, hsz64, _⟩ := info_parts info5
             have hroom64 : t305.length ≤ co16 := (Kd.R_reads' HO_3.out).2.1
             have hC64 : Kd.C (Kd.int .u8) _ Ao16 t305.length t305 := (Kd.R_reads' HO_3.out).2.2
             have hcut64 := cut_to (P := Try.prog) 25 5 .i64 Try.underlying25 hi064 Ao16 t305.length co16 (l0.length : Int) (of_decide_eq_true (by first | (with_reducible assumption) | assumption)) q64 hroom64
             have hr64 := Kd.C_take (m := ((l0.length : Int) : Int).toNat) hC64 (by omega)
             have hy64 : y308.length = ((l0.length : Int) : Int).toNat := (by rw [Ny308.out, List.length_take]; omega)
             rw [← Ny308.out] at hr64
             rw [← hy64] at hcut64
             have HR333 := Aside0.mk hr64
             have HC333 := Aside0.mk (show y308.length ≤ co16 from by omega)
             clear hr64 hC64 hroom64 hi064 hsz64
             have KY64 := Aside0.mk hy64
             clear hy64
             have KL64 := Aside0.mk (show ((l0.length : Int) : Int).toNat ≤ t305.length from by omega)
             replace q64 := eq_true q64
             go_wp2_with (first | ((with_reducible refine gate_callee (f := 17) rfl ?_); refine goesL_ (some 54) rfl rfl Try.func17 (by kernel_rfl) rfl #[.slice Ao16 y308.length co16] rfl (by (try simp only [List.map_toArray, List.map_cons, List.map_nil]); first | done | rfl | (simp only [List.length_drop, List.length_take]; rfl)) ?_; (with_reducible refine (packed_Range.calls kj11 _ _ y308 t334 t335 t336 t337 _ ?side1 ?side2 A30.out).mono ?_); (case side1 => repeat (first | exact (by repeat (first | (with_reducible exact HR333.out) | (with_reducible refine Kd.C_alloc ?_ _) | (with_reducible refine Kd.C_drewN ?_ _) | (with_reducible refine Kd.C_drew ?_) | exact HR333.out)) | (with_reducible refine Kd.C_alloc ?_ _) | (with_reducible refine Kd.C_drewN ?_ _) | (with_reducible refine Kd.C_drew ?_))); (case side2 => exact HC333.out); rintro e w65 ⟨rfl, hb⟩; refine ⟨_, rfl, ?_⟩; have n0_ := Aside0.mk (Kd.R_below (by (with_reducible repeat (first | apply Kd.R_alloc | apply Kd.R_drewN | apply Kd.R_drew)); exact HO_3.out) hb); have n1_ := Aside0.mk (Kd.R_below (by (with_reducible repeat (first | apply Kd.R_alloc | apply Kd.R_drewN | apply Kd.R_drew)); exact HO_8.out) hb); have n2_ := Aside0.mk (Kd.C_below (by repeat (first | (with_reducible exact HR333.out) | (with_reducible refine Kd.C_alloc ?_ _) | (with_reducible refine Kd.C_drewN ?_ _) | (with_reducible refine Kd.C_drew ?_) | exact HR333.out)) hb); have n3_ := Aside0.mk (below_step (by repeat (first | (with_reducible first | exact HB.out | apply below_alloc | apply pw_below_drewN | apply below_drew1) | exact HB.out)) hb); clear HO_3; clear HO_8; clear HR333; clear HB; have HO_3 := n0_; have HO_8 := n1_; have HR333 := n2_; have HB := n3_; clear n0_ n1_ n2_ n3_; (try clear hb); (try clear hb2); (try clear hk); (try clear hi)) | ((with_reducible refine gate_callee (f := 18) rfl ?_); refine goesL_ (some 61) rfl rfl Try.func18 (by kernel_rfl) rfl #[.slice Ao16 t305.length co16, .slice A0 l0.length c0] rfl (by (try simp only [List.map_toArray, List.map_cons, List.map_nil]); first | done | rfl | (simp only [List.length_drop, List.length_take]; rfl)) ?_; (with_reducible refine (stoaref01_Intact.calls kj11 _ _ t305 _ _ l0 true _ ?side1 ?side2 ?side3 ?side4 A31.out).mono ?_); (case side1 => repeat (first | exact (Kd.R_reads' HO_3.out).2.2 | (with_reducible refine Kd.C_alloc ?_ _) | (with_reducible refine Kd.C_drewN ?_ _) | (with_reducible refine Kd.C_drew ?_))); (case side2 => exact (Kd.R_reads' HO_3.out).2.1); (case side3 => repeat (first | exact (Kd.C_below HR0.out HB.out) | (with_reducible refine Kd.C_alloc ?_ _) | (with_reducible refine Kd.C_drewN ?_ _) | (with_reducible refine Kd.C_drew ?_))); (case side4 => exact HC0.out); rintro e w' ⟨rfl, ⟨nd, rfl⟩⟩; refine ⟨_, rfl, ?_⟩; obtain ⟨Ao66, co66, eo66⟩ := Kd.R_slice HO_8.out; subst eo66))
             go_ret
             exact ⟨by first | rfl | (simp [errW_none, errW_some] <;> rfl) | (simp [*, errW_none, errW_some] <;> rfl), by repeat (first | (with_reducible first | exact HB.out | apply below_alloc | apply pw_below_drewN | apply below_drew1) | exact HB.out)⟩
          ·rw [if_neg c33] at H
           have c33b0 : (t325 == 0) = false := beq_eq_false_iff_ne.mpr c33
           have c33b1 : (t325 != 0) = true := bne_iff_ne.mpr c33
           by_cases c67 : t337 = t325
           ·rw [if_pos c67] at H
            have c67b0 : (t337 == t325) = true := beq_iff_eq.mpr c67
            have c67b1 : (t337 != t325) = false := bne_eq_false_iff_eq.mpr c67
            clear c67
            by_cases c68 : t334 = 0
            ·rw [if_pos c68] at H
             have c68b0 : (t334 == 0) = true := beq_iff_eq.mpr c68
             have c68b1 : (t334 != 0) = false := bne_eq_false_iff_eq.mpr c68
             clear c68
             by_cases c69 : t335 = 0
             ·rw [if_pos c69] at H
              have c69b0 : (t335 == 0) = true := beq_iff_eq.mpr c69
              have c69b1 : (t335 != 0) = false := bne_eq_false_iff_eq.mpr c69
              clear c69
              obtain rfl := Option.some.inj H
              have q70 : ((l0.length : Int) : Int) ≤ ((t305.length : Int) : Int) := of_decide_eq_true (by first | (with_reducible assumption) | assumption)
              obtain ⟨i070, hi070, _, hsz70, _⟩ := info_parts info5
              have hroom70 : t305.length ≤ co16 := (Kd.R_reads' HO_3.out).2.1
              have hC70 : Kd.C (Kd.int .u8) _ Ao16 t305.length t305 := (Kd.R_reads' HO_3.out).2.2
              have hcut70 := cut_to (P := Try.prog) 25 5 .i64 Try.underlying25 hi070 Ao16 t305.length co16 (l0.length : Int) (of_decide_eq_true (by first | (with_reducible assumption) | assumption)) q70 hroom70
              have hr70 := Kd.C_take (m := ((l0.length : Int) : Int).toNat) hC70 (by omega)
              have hy70 : y308.length = ((l0.length : Int) : Int).toNat := (by rw [Ny308.out, List.length_take]; omega)
              rw [← Ny308.out] at hr70
              rw [← hy70] at hcut70
              have HR333 := Aside0.mk hr70
              have HC333 := Aside0.mk (show y308.length ≤ co16 from by omega)
              clear hr70 hC70 hroom70 hi070 hsz70
              have KY70 := Aside0.mk hy70
              clear hy70
              have KL70 := Aside0.mk (show ((l0.length : Int) : Int).toNat ≤ t305.length from by omega)
              replace q70 := eq_true q70
              go_wp2_with (first | ((with_reducible refine gate_callee (f := 17) rfl ?_); refine goesL_ (some 54) rfl rfl Try.func17 (by kernel_rfl) rfl #[.slice Ao16 y308.length co16] rfl (by (try simp only [List.map_toArray, List.map_cons, List.map_nil]); first | done | rfl | (simp only [List.length_drop, List.length_take]; rfl)) ?_; (with_reducible refine (packed_Range.calls kj11 _ _ y308 t334 t335 t336 t337 _ ?side1 ?side2 A30.out).mono ?_); (case side1 => repeat (first | exact (by repeat (first | (with_reducible exact HR333.out) | (with_reducible refine Kd.C_alloc ?_ _) | (with_reducible refine Kd.C_drewN ?_ _) | (with_reducible refine Kd.C_drew ?_) | exact HR333.out)) | (with_reducible refine Kd.C_alloc ?_ _) | (with_reducible refine Kd.C_drewN ?_ _) | (with_reducible refine Kd.C_drew ?_))); (case side2 => exact HC333.out); rintro e w71 ⟨rfl, hb⟩; refine ⟨_, rfl, ?_⟩; have n0_ := Aside0.mk (Kd.R_below (by (with_reducible repeat (first | apply Kd.R_alloc | apply Kd.R_drewN | apply Kd.R_drew)); exact HO_3.out) hb); have n1_ := Aside0.mk (Kd.R_below (by (with_reducible repeat (first | apply Kd.R_alloc | apply Kd.R_drewN | apply Kd.R_drew)); exact HO_8.out) hb); have n2_ := Aside0.mk (Kd.C_below (by repeat (first | (with_reducible exact HR333.out) | (with_reducible refine Kd.C_alloc ?_ _) | (with_reducible refine Kd.C_drewN ?_ _) | (with_reducible refine Kd.C_drew ?_) | exact HR333.out)) hb); have n3_ := Aside0.mk (below_step (by repeat (first | (with_reducible first | exact HB.out | apply below_alloc | apply pw_below_drewN | apply below_drew1) | exact HB.out)) hb); clear HO_3; clear HO_8; clear HR333; clear HB; have HO_3 := n0_; have HO_8 := n1_; have HR333 := n2_; have HB := n3_; clear n0_ n1_ n2_ n3_; (try clear hb); (try clear hb2); (try clear hk); (try clear hi)) | ((with_reducible refine gate_callee (f := 18) rfl ?_); refine goesL_ (some 61) rfl rfl Try.func18 (by kernel_rfl) rfl #[.slice Ao16 t305.length co16, .slice A0 l0.length c0] rfl (by (try simp only [List.map_toArray, List.map_cons, List.map_nil]); first | done | rfl | (simp only [List.length_drop, List.length_take]; rfl)) ?_; (with_reducible refine (stoaref01_Intact.calls kj11 _ _ t305 _ _ l0 true _ ?side1 ?side2 ?side3 ?side4 A31.out).mono ?_); (case side1 => repeat (first | exact (Kd.R_reads' HO_3.out).2.2 | (with_reducible refine Kd.C_alloc ?_ _) | (with_reducible refine Kd.C_drewN ?_ _) | (with_reducible refine Kd.C_drew ?_))); (case side2 => exact (Kd.R_reads' HO_3.out).2.1); (case side3 => repeat (first | exact (Kd.C_below HR0.out HB.out) | (with_reducible refine Kd.C_alloc ?_ _) | (with_reducible refine Kd.C_drewN ?_ _) | (with_reducible refine Kd.C_drew ?_))); (case side4 => exact HC0.out); rintro e w' ⟨rfl, ⟨nd, rfl⟩⟩; refine ⟨_, rfl, ?_⟩))
              go_ret
              exact ⟨by first | rfl | (simp [errW_none, errW_some] <;> rfl) | (simp [*, errW_none, errW_some] <;> rfl), by repeat (first | (with_reducible first | exact HB.out | apply below_alloc | apply pw_below_drewN | apply below_drew1) | exact HB.out)⟩
             ·rw [if_neg c69] at H
              have c69b0 : (t335 == 0) = false := beq_eq_false_iff_ne.mpr c69
              have c69b1 : (t335 != 0) = true := bne_iff_ne.mpr c69
              obtain rfl := Option.some.inj H
              have q72 : ((l0.length : Int) : Int) ≤ ((t305.length : Int) : Int) := of_decide_eq_true (by first | (with_reducible assumption) | assumption)
              obtain ⟨i072, hi072, _, hsz72, _⟩ := info_parts info5
              have hroom72 : t305.length ≤ co16 := (Kd.R_reads' HO_3.out).2.1
              have hC72 : Kd.C (Kd.int .u8) _ Ao16 t305.length t305 := (Kd.R_reads' HO_3.out).2.2
              have hcut72 := cut_to (P := Try.prog) 25 5 .i64 Try.underlying25 hi072 Ao16 t305.length co16 (l0.length : Int) (of_decide_eq_true (by first | (with_reducible assumption) | assumption)) q72 hroom72
              have hr72 := Kd.C_take (m := ((l0.length : Int) : Int).toNat) hC72 (by omega)
              have hy72 : y308.length = ((l0.length : Int) : Int).toNat := (by rw [Ny308.out, List.length_take]; omega)
              rw [← Ny308.out] at hr72
              rw [← hy72] at hcut72
              have HR333 := Aside0.mk hr72
              have HC333 := Aside0.mk (show y308.length ≤ co16 from by omega)
              clear hr72 hC72 hroom72 hi072 hsz72
              have KY72 := Aside0.mk hy72
              clear hy72
              have KL72 := Aside0.mk (show ((l0.length : Int) : Int).toNat ≤ t305.length from by omega)
              replace q72 := eq_true q72
              go_wp2_with (first | ((with_reducible refine gate_callee (f := 17) rfl ?_); refine goesL_ (some 54) rfl rfl Try.func17 (by kernel_rfl) rfl #[.slice Ao16 y308.length co16] rfl (by (try simp only [List.map_toArray, List.map_cons, List.map_nil]); first | done | rfl | (simp only [List.length_drop, List.length_take]; rfl)) ?_; (with_reducible refine (packed_Range.calls kj11 _ _ y308 t334 t335 t336 t337 _ ?side1 ?side2 A30.out).mono ?_); (case side1 => repeat (first | exact (by repeat (first | (with_reducible exact HR333.out) | (with_reducible refine Kd.C_alloc ?_ _) | (with_reducible refine Kd.C_drewN ?_ _) | (with_reducible refine Kd.C_drew ?_) | exact HR333.out)) | (with_reducible refine Kd.C_alloc ?_ _) | (with_reducible refine Kd.C_drewN ?_ _) | (with_reducible refine Kd.C_drew ?_))); (case side2 => exact HC333.out); rintro e w73 ⟨rfl, hb⟩; refine ⟨_, rfl, ?_⟩; have n0_ := Aside0.mk (Kd.R_below (by (with_reducible repeat (first | apply Kd.R_alloc | apply Kd.R_drewN | apply Kd.R_drew)); exact HO_3.out) hb); have n1_ := Aside0.mk (Kd.R_below (by (with_reducible repeat (first | apply Kd.R_alloc | apply Kd.R_drewN | apply Kd.R_drew)); exact HO_8.out) hb); have n2_ := Aside0.mk (Kd.C_below (by repeat (first | (with_reducible exact HR333.out) | (with_reducible refine Kd.C_alloc ?_ _) | (with_reducible refine Kd.C_drewN ?_ _) | (with_reducible refine Kd.C_drew ?_) | exact HR333.out)) hb); have n3_ := Aside0.mk (below_step (by repeat (first | (with_reducible first | exact HB.out | apply below_alloc | apply pw_below_drewN | apply below_drew1) | exact HB.out)) hb); clear HO_3; clear HO_8; clear HR333; clear HB; have HO_3 := n0_; have HO_8 := n1_; have HR333 := n2_; have HB := n3_; clear n0_ n1_ n2_ n3_; (try clear hb); (try clear hb2); (try clear hk); (try clear hi)) | ((with_reducible refine gate_callee (f := 18) rfl ?_); refine goesL_ (some 61) rfl rfl Try.func18 (by kernel_rfl) rfl #[.slice Ao16 t305.length co16, .slice A0 l0.length c0] rfl (by (try simp only [List.map_toArray, List.map_cons, List.map_nil]); first | done | rfl | (simp only [List.length_drop, List.length_take]; rfl)) ?_; (with_reducible refine (stoaref01_Intact.calls kj11 _ _ t305 _ _ l0 true _ ?side1 ?side2 ?side3 ?side4 A31.out).mono ?_); (case side1 => repeat (first | exact (Kd.R_reads' HO_3.out).2.2 | (with_reducible refine Kd.C_alloc ?_ _) | (with_reducible refine Kd.C_drewN ?_ _) | (with_reducible refine Kd.C_drew ?_))); (case side2 => exact (Kd.R_reads' HO_3.out).2.1); (case side3 => repeat (first | exact (Kd.C_below HR0.out HB.out) | (with_reducible refine Kd.C_alloc ?_ _) | (with_reducible refine Kd.C_drewN ?_ _) | (with_reducible refine Kd.C_drew ?_))); (case side4 => exact HC0.out); rintro e w' ⟨rfl, ⟨nd, rfl⟩⟩; refine ⟨_, rfl, ?_⟩))
              go_ret
              exact ⟨by first | rfl | (simp [errW_none, errW_some] <;> rfl) | (simp [*, errW_none, errW_some] <;> rfl), by repeat (first | (with_reducible first | exact HB.out | apply below_alloc | apply pw_below_drewN | apply below_drew1) | exact HB.out)⟩
            ·rw [if_neg c68] at H
             have c68b0 : (t334 == 0) = false := beq_eq_false_iff_ne.mpr c68
             have c68b1 : (t334 != 0) = true := bne_iff_ne.mpr c68
             obtain rfl := Option.some.inj H
             have q74 : ((l0.length : Int) : Int) ≤ ((t305.length : Int) : Int) := of_decide_eq_true (by first | (with_reducible assumption) | assumption)
             obtain ⟨i074, hi074, _, hsz74, _⟩ := info_parts info5
             have hroom74 : t305.length ≤ co16 := (Kd.R_reads' HO_3.out).2.1
             have hC74 : Kd.C (Kd.int .u8) _ Ao16 t305.length t305 := (Kd.R_reads' HO_3.out).2.2
             have hcut74 := cut_to (P := Try.prog) 25 5 .i64 Try.underlying25 hi074 Ao16 t305.length co16 (l0.length : Int) (of_decide_eq_true (by first | (with_reducible assumption) | assumption)) q74 hroom74
             have hr74 := Kd.C_take (m := ((l0.length : Int) : Int).toNat) hC74 (by omega)
             have hy74 : y308.length = ((l0.length : Int) : Int).toNat := (by rw [Ny308.out, List.length_take]; omega)
             rw [← Ny308.out] at hr74
             rw [← hy74] at hcut74
             have HR333 := Aside0.mk hr74
             have HC333 := Aside0.mk (show y308.length ≤ co16 from by omega)
             clear hr74 hC74 hroom74 hi074 hsz74
             have KY74 := Aside0.mk hy74
             clear hy74
             have KL74 := Aside0.mk (show ((l0.length : Int) : Int).toNat ≤ t305.length from by omega)
             replace q74 := eq_true q74
             go_wp2_with (first | ((with_reducible refine gate_callee (f := 17) rfl ?_); refine goesL_ (some 54) rfl rfl Try.func17 (by kernel_rfl) rfl #[.slice Ao16 y308.length co16] rfl (by (try simp only [List.map_toArray, List.map_cons, List.map_nil]); first | done | rfl | (simp only [List.length_drop, List.length_take]; rfl)) ?_; (with_reducible refine (packed_Range.calls kj11 _ _ y308 t334 t335 t336 t337 _ ?side1 ?side2 A30.out).mono ?_); (case side1 => repeat (first | exact (by repeat (first | (with_reducible exact HR333.out) | (with_reducible refine Kd.C_alloc ?_ _) | (with_reducible refine Kd.C_drewN ?_ _) | (with_reducible refine Kd.C_drew ?_) | exact HR333.out)) | (with_reducible refine Kd.C_alloc ?_ _) | (with_reducible refine Kd.C_drewN ?_ _) | (with_reducible refine Kd.C_drew ?_))); (case side2 => exact HC333.out); rintro e w75 ⟨rfl, hb⟩; refine ⟨_, rfl, ?_⟩; have n0_ := Aside0.mk (Kd.R_below (by (with_reducible repeat (first | apply Kd.R_alloc | apply Kd.R_drewN | apply Kd.R_drew)); exact HO_3.out) hb); have n1_ := Aside0.mk (Kd.R_below (by (with_reducible repeat (first | apply Kd.R_alloc | apply Kd.R_drewN | apply Kd.R_drew)); exact HO_8.out) hb); have n2_ := Aside0.mk (Kd.C_below (by repeat (first | (with_reducible exact HR333.out) | (with_reducible refine Kd.C_alloc ?_ _) | (with_reducible refine Kd.C_drewN ?_ _) | (with_reducible refine Kd.C_drew ?_) | exact HR333.out)) hb); have n3_ := Aside0.mk (below_step (by repeat (first | (with_reducible first | exact HB.out | apply below_alloc | apply pw_below_drewN | apply below_drew1) | exact HB.out)) hb); clear HO_3; clear HO_8; clear HR333; clear HB; have HO_3 := n0_; have HO_8 := n1_; have HR333 := n2_; have HB := n3_; clear n0_ n1_ n2_ n3_; (try clear hb); (try clear hb2); (try clear hk); (try clear hi)) | ((with_reducible refine gate_callee (f := 18) rfl ?_); refine goesL_ (some 61) rfl rfl Try.func18 (by kernel_rfl) rfl #[.slice Ao16 t305.length co16, .slice A0 l0.length c0] rfl (by (try simp only [List.map_toArray, List.map_cons, List.map_nil]); first | done | rfl | (simp only [List.length_drop, List.length_take]; rfl)) ?_; (with_reducible refine (stoaref01_Intact.calls kj11 _ _ t305 _ _ l0 true _ ?side1 ?side2 ?side3 ?side4 A31.out).mono ?_); (case side1 => repeat (first | exact (Kd.R_reads' HO_3.out).2.2 | (with_reducible refine Kd.C_alloc ?_ _) | (with_reducible refine Kd.C_drewN ?_ _) | (with_reducible refine Kd.C_drew ?_))); (case side2 => exact (Kd.R_reads' HO_3.out).2.1); (case side3 => repeat (first | exact (Kd.C_below HR0.out HB.out) | (with_reducible refine Kd.C_alloc ?_ _) | (with_reducible refine Kd.C_drewN ?_ _) | (with_reducible refine Kd.C_drew ?_))); (case side4 => exact HC0.out); rintro e w' ⟨rfl, ⟨nd, rfl⟩⟩; refine ⟨_, rfl, ?_⟩))
             go_ret
             exact ⟨by first | rfl | (simp [errW_none, errW_some] <;> rfl) | (simp [*, errW_none, errW_some] <;> rfl), by repeat (first | (with_reducible first | exact HB.out | apply below_alloc | apply pw_below_drewN | apply below_drew1) | exact HB.out)⟩
           ·rw [if_neg c67] at H
            have c67b0 : (t337 == t325) = false := beq_eq_false_iff_ne.mpr c67
            have c67b1 : (t337 != t325) = true := bne_iff_ne.mpr c67
            obtain rfl := Option.some.inj H
            have q76 : ((l0.length : Int) : Int) ≤ ((t305.length : Int) : Int) := of_decide_eq_true (by first | (with_reducible assumption) | assumption)
            obtain ⟨i076, hi076, _, hsz76, _⟩ := info_parts info5
            have hroom76 : t305.length ≤ co16 := (Kd.R_reads' HO_3.out).2.1
            have hC76 : Kd.C (Kd.int .u8) _ Ao16 t305.length t305 := (Kd.R_reads' HO_3.out).2.2
            have hcut76 := cut_to (P := Try.prog) 25 5 .i64 Try.underlying25 hi076 Ao16 t305.length co16 (l0.length : Int) (of_decide_eq_true (by first | (with_reducible assumption) | assumption)) q76 hroom76
            have hr76 := Kd.C_take (m := ((l0.length : Int) : Int).toNat) hC76 (by omega)
            have hy76 : y308.length = ((l0.length : Int) : Int).toNat := (by rw [Ny308.out, List.length_take]; omega)
            rw [← Ny308.out] at hr76
            rw [← hy76] at hcut76
            have HR333 := Aside0.mk hr76
            have HC333 := Aside0.mk (show y308.length ≤ co16 from by omega)
            clear hr76 hC76 hroom76 hi076 hsz76
            have KY76 := Aside0.mk hy76
            clear hy76
            have KL76 := Aside0.mk (show ((l0.length : Int) : Int).toNat ≤ t305.length from by omega)
            replace q76 := eq_true q76
            go_wp2_with (first | ((with_reducible refine gate_callee (f := 17) rfl ?_); refine goesL_ (some 54) rfl rfl Try.func17 (by kernel_rfl) rfl #[.slice Ao16 y308.length co16] rfl (by (try simp only [List.map_toArray, List.map_cons, List.map_nil]); first | done | rfl | (simp only [List.length_drop, List.length_take]; rfl)) ?_; (with_reducible refine (packed_Range.calls kj11 _ _ y308 t334 t335 t336 t337 _ ?side1 ?side2 A30.out).mono ?_); (case side1 => repeat (first | exact (by repeat (first | (with_reducible exact HR333.out) | (with_reducible refine Kd.C_alloc ?_ _) | (with_reducible refine Kd.C_drewN ?_ _) | (with_reducible refine Kd.C_drew ?_) | exact HR333.out)) | (with_reducible refine Kd.C_alloc ?_ _) | (with_reducible refine Kd.C_drewN ?_ _) | (with_reducible refine Kd.C_drew ?_))); (case side2 => exact HC333.out); rintro e w77 ⟨rfl, hb⟩; refine ⟨_, rfl, ?_⟩; have n0_ := Aside0.mk (Kd.R_below (by (with_reducible repeat (first | apply Kd.R_alloc | apply Kd.R_drewN | apply Kd.R_drew)); exact HO_3.out) hb); have n1_ := Aside0.mk (Kd.R_below (by (with_reducible repeat (first | apply Kd.R_alloc | apply Kd.R_drewN | apply Kd.R_drew)); exact HO_8.out) hb); have n2_ := Aside0.mk (Kd.C_below (by repeat (first | (with_reducible exact HR333.out) | (with_reducible refine Kd.C_alloc ?_ _) | (with_reducible refine Kd.C_drewN ?_ _) | (with_reducible refine Kd.C_drew ?_) | exact HR333.out)) hb); have n3_ := Aside0.mk (below_step (by repeat (first | (with_reducible first | exact HB.out | apply below_alloc | apply pw_below_drewN | apply below_drew1) | exact HB.out)) hb); clear HO_3; clear HO_8; clear HR333; clear HB; have HO_3 := n0_; have HO_8 := n1_; have HR333 := n2_; have HB := n3_; clear n0_ n1_ n2_ n3_; (try clear hb); (try clear hb2); (try clear hk); (try clear hi)) | ((with_reducible refine gate_callee (f := 18) rfl ?_); refine goesL_ (some 61) rfl rfl Try.func18 (by kernel_rfl) rfl #[.slice Ao16 t305.length co16, .slice A0 l0.length c0] rfl (by (try simp only [List.map_toArray, List.map_cons, List.map_nil]); first | done | rfl | (simp only [List.length_drop, List.length_take]; rfl)) ?_; (with_reducible refine (stoaref01_Intact.calls kj11 _ _ t305 _ _ l0 true _ ?side1 ?side2 ?side3 ?side4 A31.out).mono ?_); (case side1 => repeat (first | exact (Kd.R_reads' HO_3.out).2.2 | (with_reducible refine Kd.C_alloc ?_ _) | (with_reducible refine Kd.C_drewN ?_ _) | (with_reducible refine Kd.C_drew ?_))); (case side2 => exact (Kd.R_reads' HO_3.out).2.1); (case side3 => repeat (first | exact (Kd.C_below HR0.out HB.out) | (with_reducible refine Kd.C_alloc ?_ _) | (with_reducible refine Kd.C_drewN ?_ _) | (with_reducible refine Kd.C_drew ?_))); (case side4 => exact HC0.out); rintro e w' ⟨rfl, ⟨nd, rfl⟩⟩; refine ⟨_, rfl, ?_⟩))
            go_ret
            exact ⟨by first | rfl | (simp [errW_none, errW_some] <;> rfl) | (simp [*, errW_none, errW_some] <;> rfl), by repeat (first | (with_reducible first | exact HB.out | apply below_alloc | apply pw_below_drewN | apply below_drew1) | exact HB.out)⟩
         ·replace c32 := Bool.eq_false_iff.mpr c32
          subst c32
          have H1 : (some false) = some r := by rw [if_neg (show ¬ (false = true) by decide)] at H; exact H
          clear H
          have H := H1
          clear H1
          obtain rfl := Option.some.inj H
          have q78 : ((l0.length : Int) : Int) ≤ ((t305.length : Int) : Int) := of_decide_eq_true (by first | (with_reducible assumption) | assumption)
          obtain ⟨i078, hi078, _, hsz78, _⟩ := info_parts info5
          have hroom78 : t305.length ≤ co16 := (Kd.R_reads' HO_3.out).2.1
          have hC78 : Kd.C (Kd.int .u8) _ Ao16 t305.length t305 := (Kd.R_reads' HO_3.out).2.2
          have hcut78 := cut_to (P := Try.prog) 25 5 .i64 Try.underlying25 hi078 Ao16 t305.length co16 (l0.length : Int) (of_decide_eq_true (by first | (with_reducible assumption) | assumption)) q78 hroom78
          have hr78 := Kd.C_take (m := ((l0.length : Int) : Int).toNat) hC78 (by omega)
          have hy78 : y308.length = ((l0.length : Int) : Int).toNat := (by rw [Ny308.out, List.length_take]; omega)
          rw [← Ny308.out] at hr78
          rw [← hy78] at hcut78
          have HR333 := Aside0.mk hr78
          have HC333 := Aside0.mk (show y308.length ≤ co16 from by omega)
          clear hr78 hC78 hroom78 hi078 hsz78
          have KY78 := Aside0.mk hy78
          clear hy78
          have KL78 := Aside0.mk (show ((l0.length : Int) : Int).toNat ≤ t305.length from by omega)
          replace q78 := eq_true q78
          go_wp2_with (first | ((with_reducible refine gate_callee (f := 17) rfl ?_); refine goesL_ (some 54) rfl rfl Try.func17 (by kernel_rfl) rfl #[.slice Ao16 y308.length co16] rfl (by (try simp only [List.map_toArray, List.map_cons, List.map_nil]); first | done | rfl | (simp only [List.length_drop, List.length_take]; rfl)) ?_; (with_reducible refine (packed_Range.calls kj11 _ _ y308 t334 t335 t336 t337 _ ?side1 ?side2 A30.out).mono ?_); (case side1 => repeat (first | exact (by repeat (first | (with_reducible exact HR333.out) | (with_reducible refine Kd.C_alloc ?_ _) | (with_reducible refine Kd.C_drewN ?_ _) | (with_reducible refine Kd.C_drew ?_) | exact HR333.out)) | (with_reducible refine Kd.C_alloc ?_ _) | (with_reducible refine Kd.C_drewN ?_ _) | (with_reducible refine Kd.C_drew ?_))); (case side2 => exact HC333.out); rintro e w79 ⟨rfl, hb⟩; refine ⟨_, rfl, ?_⟩; have n0_ := Aside0.mk (Kd.R_below (by (with_reducible repeat (first | apply Kd.R_alloc | apply Kd.R_drewN | apply Kd.R_drew)); exact HO_3.out) hb); have n1_ := Aside0.mk (Kd.R_below (by (with_reducible repeat (first | apply Kd.R_alloc | apply Kd.R_drewN | apply Kd.R_drew)); exact HO_8.out) hb); have n2_ := Aside0.mk (Kd.C_below (by repeat (first | (with_reducible exact HR333.out) | (with_reducible refine Kd.C_alloc ?_ _) | (with_reducible refine Kd.C_drewN ?_ _) | (with_reducible refine Kd.C_drew ?_) | exact HR333.out)) hb); have n3_ := Aside0.mk (below_step (by repeat (first | (with_reducible first | exact HB.out | apply below_alloc | apply pw_below_drewN | apply below_drew1) | exact HB.out)) hb); clear HO_3; clear HO_8; clear HR333; clear HB; have HO_3 := n0_; have HO_8 := n1_; have HR333 := n2_; have HB := n3_; clear n0_ n1_ n2_ n3_; (try clear hb); (try clear hb2); (try clear hk); (try clear hi)) | ((with_reducible refine gate_callee (f := 18) rfl ?_); refine goesL_ (some 61) rfl rfl Try.func18 (by kernel_rfl) rfl #[.slice Ao16 t305.length co16, .slice A0 l0.length c0] rfl (by (try simp only [List.map_toArray, List.map_cons, List.map_nil]); first | done | rfl | (simp only [List.length_drop, List.length_take]; rfl)) ?_; (with_reducible refine (stoaref01_Intact.calls kj11 _ _ t305 _ _ l0 false _ ?side1 ?side2 ?side3 ?side4 A31.out).mono ?_); (case side1 => repeat (first | exact (Kd.R_reads' HO_3.out).2.2 | (with_reducible refine Kd.C_alloc ?_ _) | (with_reducible refine Kd.C_drewN ?_ _) | (with_reducible refine Kd.C_drew ?_))); (case side2 => exact (Kd.R_reads' HO_3.out).2.1); (case side3 => repeat (first | exact (Kd.C_below HR0.out HB.out) | (with_reducible refine Kd.C_alloc ?_ _) | (with_reducible refine Kd.C_drewN ?_ _) | (with_reducible refine Kd.C_drew ?_))); (case side4 => exact HC0.out); rintro e w' ⟨rfl, ⟨nd, rfl⟩⟩; refine ⟨_, rfl, ?_⟩))
          go_ret
          exact ⟨by first | rfl | (simp [errW_none, errW_some] <;> rfl) | (simp [*, errW_none, errW_some] <;> rfl), by repeat (first | (with_reducible first | exact HB.out | apply below_alloc | apply pw_below_drewN | apply below_drew1) | exact HB.out)⟩
        ·rw [if_neg c29] at H
         exact absurd H (by simp)
       ·rw [if_neg c28] at H
        exact absurd H (by simp)
   ·rw [if_neg c6] at H
    exact absurd H (by simp)
  ·rw [if_neg c5] at H
   exact absurd H (by simp)
 ·replace c3 := Bool.eq_false_iff.mpr c3
  subst c3
  have H1 : (some false) = some r := by rw [if_neg (show ¬ (false = true) by decide)] at H; exact H
  clear H
  have H := H1
  clear H1
  obtain rfl := Option.some.inj H
  go_enter Try.func4, Try.ntmps4
  go_wp2_with (first | ((with_reducible refine gate_callee (f := 7) rfl ?_); refine goesL_ (some 14) rfl rfl Try.func7 (by kernel_rfl) rfl #[] rfl (by (try simp only [List.map_toArray, List.map_cons, List.map_nil]); first | done | rfl | (simp only [List.length_drop, List.length_take]; rfl)) ?_; (with_reducible refine (stoalaw09_alive.calls k  false _ A2.out).mono ?_); rintro e w80 ⟨rfl, hb⟩; refine ⟨_, rfl, ?_⟩; have n0_ := Aside0.mk (below_step (by repeat (first | (with_reducible first | exact HB.out | apply below_alloc | apply pw_below_drewN | apply below_drew1) | exact HB.out)) hb); clear HB; have HB := n0_; clear n0_; (try clear hb); (try clear hb2); (try clear hk); (try clear hi)))
  go_ret
  exact ⟨by first | rfl | (simp [errW_none, errW_some] <;> rfl) | (simp [*, errW_none, errW_some] <;> rfl), by repeat (first | (with_reducible first | exact HB.out | apply below_alloc | apply pw_below_drewN | apply below_drew1) | exact HB.out)⟩

/-- THE ONE PURE STATEMENT of stoalaw09_PackedDecodes: yours. -/
def stoalaw09_PackedDecodes.Pure : Prop := ∀ (l0 : List Int), l0.length ≤ maxLen → l0.length * 1 ≤ 140737488351232 → (∀ x ∈ l0, (Lit.int .u8 x).wf = true) → ∃ k, stoalaw09_PackedDecodes.f k l0 = some true
theorem stoalaw09_PackedDecodes.walk (P : stoalaw09_PackedDecodes.Pure) (a0 : Option Addr) (len0 cap0 : Nat) (z0 : List Int) (w : World) (w0 : (a0 = none ∧ len0 = 0 ∧ cap0 = 0 ∧ z0 = []) ∨ ∃ x, a0 = some x ∧ len0 ≤ cap0 ∧ cap0 ≤ maxLen ∧ z0.length = cap0 ∧ (∀ i, i < z0.length → w.cell? (x.add i) = some (.int .u8 (z0.getD i 0))) ∧ ∀ n ∈ z0, (Lit.int .u8 n).wf = true) (y0 : len0 * 1 ≤ 140737488351232) :
  Calls Try.prog 4 #[.slice a0 len0 cap0] w fun e w' => e = .returned (.bool true) ∧ Below w.heap.size w w' := by
 obtain ⟨l0, rfl, hr0, hm0, hw0, hc0⟩ := ReadsInt.ofRowC w0
 obtain ⟨k, h⟩ := P l0 hm0 y0 hw0
 refine (stoalaw09_PackedDecodes.calls k _ _ l0 true w (Kd.C_of_reads (d := (0 : Int)) (h1 := fun _ => rfl) hr0) hc0 h).mono ?_
 rintro e w' ⟨rfl, hd⟩
 exact ⟨rfl, hd⟩

end Go.Proofs.Ytimjmndogalcbaa.PPackedDecodes

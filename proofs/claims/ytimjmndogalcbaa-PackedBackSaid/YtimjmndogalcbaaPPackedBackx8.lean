-- written by this session's own printing program (myprint.sh)
import Derived.Test.YtimjmndogalcbaaPPackedBackx0
import Derived.Test.YtimjmndogalcbaaPPackedBackx2
import Derived.Test.YtimjmndogalcbaaPPackedBackx6
import Derived.Test.YtimjmndogalcbaaPPackedBackx7
namespace Go.Proofs.Ytimjmndogalcbaa.PPackedBack
open Go.RowKit Go.Proofs.YtimjmndogalcbaaW.PrintWords Go.Proofs.YtimjmndogalcbaaW.PrintLast Go.Proofs.YtimjmndogalcbaaW.PrintMore
attribute [local go_sem] max2_int min2_int max_two min_two max_three min_three max_four min_four   -- for this text's walks alone
set_option linter.unusedVariables false
set_option linter.unusedSimpArgs false

/-! ### stoalaw09_PackedBack: function 5 -/
mutual
def stoalaw09_PackedBack.j0 : Nat → List Int → Int → List Int → Bool → Option (Bool)
  | 0, _, _, _, _ => none
  | k + 1, x0, x1, x5, x56 => if x56 = true then (some false) else (if (x0.length : Int) = 0 then (stoalaw09_PackedBack.j1 k x0 x1 x5 true) else (if x1 < 0 then (stoalaw09_PackedBack.j1 k x0 x1 x5 true) else (stoalaw09_PackedBack.j1 k x0 x1 x5 (decide (x1 > 63)))))
def stoalaw09_PackedBack.j1 : Nat → List Int → Int → List Int → Bool → Option (Bool)
  | 0, _, _, _, _ => none
  | k + 1, x0, x1, x5, x67 => if x67 = true then (some true) else ((stoaref09_Greatest.f k x0).bind fun t262 => ((stoaref09_Least.f k x0).bind fun t263 => (if 0 ≤ (IntKind.u64.wrap (x1)) then (if (shr .u64 (IntKind.u64.wrap ((IntKind.u64.wrap (t262)) - (IntKind.u64.wrap (t263)))) (IntKind.u64.wrap (x1))) = 0 then (some (decide ((x5.length : Int) ≤ (wrap64 (13 + (wrap64 (Int.tdiv (wrap64 ((wrap64 ((x0.length : Int) * x1)) + 7)) 8))))))) else (some true)) else (none))))
end
def stoalaw09_PackedBack.f (k : Nat) (l0 : List Int) (a1 : Int) : Option (Bool) := (stoalaw09_alive.f k).bind fun t242 => (if t242 = true then ((packed_Encode.f k l0).bind fun bt243 => (if (l0.length : Int) > 4096 then (if bt243.2 = 4 then (some ((bt243.1.length : Int) == 0)) else (some false)) else ((packed_Decode.f k bt243.1).bind fun bt247 => ((stoaref01_Cat.f k bt243.1 (([0] : List Int))).bind fun t254 => ((packed_Decode.f k t254).bind fun bt257 => (if bt243.2 = 0 then (if bt247.2 = 0 then (if bt257.2 = 3 then ((stoaref08_Same.f k bt247.1 l0).bind fun t261 => (stoalaw09_PackedBack.j0 k l0 a1 bt243.1 (!t261))) else (stoalaw09_PackedBack.j0 k l0 a1 bt243.1 true)) else (stoalaw09_PackedBack.j0 k l0 a1 bt243.1 true)) else (stoalaw09_PackedBack.j0 k l0 a1 bt243.1 true))))))) else (some false))
theorem stoalaw09_PackedBack.mono_l : ∀ k, (∀ y0 y1 y2 y3, LeO (stoalaw09_PackedBack.j0 k y0 y1 y2 y3) (stoalaw09_PackedBack.j0 (k + 1) y0 y1 y2 y3)) ∧ (∀ y0 y1 y2 y3, LeO (stoalaw09_PackedBack.j1 k y0 y1 y2 y3) (stoalaw09_PackedBack.j1 (k + 1) y0 y1 y2 y3))
  | 0 => ⟨fun _ _ _ _ r h => by simp [stoalaw09_PackedBack.j0] at h, fun _ _ _ _ r h => by simp [stoalaw09_PackedBack.j1] at h⟩
  | k + 1 => by
    obtain ⟨ih0, ih1⟩ := stoalaw09_PackedBack.mono_l k
    refine ⟨?_, ?_⟩
    · intro y0 y1 y2 y3
      unfold stoalaw09_PackedBack.j0
      repeat' first
      | (with_reducible exact ih0 _ _ _ _)
      | (with_reducible exact ih1 _ _ _ _)
      | (with_reducible exact packed_Decode.mono _ _)
      | (with_reducible exact packed_Encode.mono _ _)
      | (with_reducible exact stoalaw09_alive.mono _)
      | (with_reducible exact stoaref01_Cat.mono _ _ _)
      | (with_reducible exact stoaref08_Same.mono _ _ _)
      | (with_reducible exact stoaref09_Greatest.mono _ _)
      | (with_reducible exact stoaref09_Least.mono _ _)
      | (with_reducible exact LeO.refl _)
      | (with_reducible exact LeO.none _)
      | (with_reducible refine LeO.ite ?_ ?_)
      | (with_reducible refine LeO.bind ?_ (fun _ => ?_))
      | exact ih0 _ _ _ _
      | exact ih1 _ _ _ _
      | exact packed_Decode.mono _ _
      | exact packed_Encode.mono _ _
      | exact stoalaw09_alive.mono _
      | exact stoaref01_Cat.mono _ _ _
      | exact stoaref08_Same.mono _ _ _
      | exact stoaref09_Greatest.mono _ _
      | exact stoaref09_Least.mono _ _
      | exact LeO.none _
      | refine LeO.ite ?_ ?_
      | refine LeO.bind ?_ (fun _ => ?_)
    · intro y0 y1 y2 y3
      unfold stoalaw09_PackedBack.j1
      repeat' first
      | (with_reducible exact ih0 _ _ _ _)
      | (with_reducible exact ih1 _ _ _ _)
      | (with_reducible exact packed_Decode.mono _ _)
      | (with_reducible exact packed_Encode.mono _ _)
      | (with_reducible exact stoalaw09_alive.mono _)
      | (with_reducible exact stoaref01_Cat.mono _ _ _)
      | (with_reducible exact stoaref08_Same.mono _ _ _)
      | (with_reducible exact stoaref09_Greatest.mono _ _)
      | (with_reducible exact stoaref09_Least.mono _ _)
      | (with_reducible exact LeO.refl _)
      | (with_reducible exact LeO.none _)
      | (with_reducible refine LeO.ite ?_ ?_)
      | (with_reducible refine LeO.bind ?_ (fun _ => ?_))
      | exact ih0 _ _ _ _
      | exact ih1 _ _ _ _
      | exact packed_Decode.mono _ _
      | exact packed_Encode.mono _ _
      | exact stoalaw09_alive.mono _
      | exact stoaref01_Cat.mono _ _ _
      | exact stoaref08_Same.mono _ _ _
      | exact stoaref09_Greatest.mono _ _
      | exact stoaref09_Least.mono _ _
      | exact LeO.none _
      | refine LeO.ite ?_ ?_
      | refine LeO.bind ?_ (fun _ => ?_)
theorem stoalaw09_PackedBack.mono : ∀ a0 a1 k, LeO (stoalaw09_PackedBack.f k a0 a1) (stoalaw09_PackedBack.f (k + 1) a0 a1) := by
  intro a0 a1 k
  obtain ⟨ih0, ih1⟩ := stoalaw09_PackedBack.mono_l k
  unfold stoalaw09_PackedBack.f
  repeat' first
      | (with_reducible exact ih0 _ _ _ _)
      | (with_reducible exact ih1 _ _ _ _)
      | (with_reducible exact packed_Decode.mono _ _)
      | (with_reducible exact packed_Encode.mono _ _)
      | (with_reducible exact stoalaw09_alive.mono _)
      | (with_reducible exact stoaref01_Cat.mono _ _ _)
      | (with_reducible exact stoaref08_Same.mono _ _ _)
      | (with_reducible exact stoaref09_Greatest.mono _ _)
      | (with_reducible exact stoaref09_Least.mono _ _)
      | (with_reducible exact LeO.refl _)
      | (with_reducible exact LeO.none _)
      | (with_reducible refine LeO.ite ?_ ?_)
      | (with_reducible refine LeO.bind ?_ (fun _ => ?_))
      | exact ih0 _ _ _ _
      | exact ih1 _ _ _ _
      | exact packed_Decode.mono _ _
      | exact packed_Encode.mono _ _
      | exact stoalaw09_alive.mono _
      | exact stoaref01_Cat.mono _ _ _
      | exact stoaref08_Same.mono _ _ _
      | exact stoaref09_Greatest.mono _ _
      | exact stoaref09_Least.mono _ _
      | exact LeO.none _
      | refine LeO.ite ?_ ?_
      | refine LeO.bind ?_ (fun _ => ?_)
set_option maxHeartbeats 8000000 in
set_option maxRecDepth 100000 in
theorem stoalaw09_PackedBack.calls (k : Nat) (A0 : Option Addr) (c0 : Nat) (l0 : List Int) (a1 : Int) (r : Bool) (w : World) (hr0 : Kd.C (Kd.int .i64) w A0 l0.length l0) (hc0 : l0.length ≤ c0) (h : stoalaw09_PackedBack.f k l0 a1 = some r) :
    Calls Try.prog 5 #[.slice A0 l0.length c0, .int .i64 a1] w fun e w' => e = .returned (.bool r) ∧ Below w.heap.size w w' := by
  have HR0 := Aside0.mk hr0
  have HC0 := Aside0.mk hc0
  clear hr0 hc0
  have HB := Aside0.mk (Below.refl w.heap.size w)
  have H : ((stoalaw09_alive.f k).bind fun t242 => (if t242 = true then ((packed_Encode.f k l0).bind fun bt243 => (if (l0.length : Int) > 4096 then (if bt243.2 = 4 then (some ((bt243.1.length : Int) == 0)) else (some false)) else ((packed_Decode.f k bt243.1).bind fun bt247 => ((stoaref01_Cat.f k bt243.1 (([0] : List Int))).bind fun t254 => ((packed_Decode.f k t254).bind fun bt257 => (if bt243.2 = 0 then (if bt247.2 = 0 then (if bt257.2 = 3 then ((stoaref08_Same.f k bt247.1 l0).bind fun t261 => (stoalaw09_PackedBack.j0 k l0 a1 bt243.1 (!t261))) else (stoalaw09_PackedBack.j0 k l0 a1 bt243.1 true)) else (stoalaw09_PackedBack.j0 k l0 a1 bt243.1 true)) else (stoalaw09_PackedBack.j0 k l0 a1 bt243.1 true))))))) else (some false))) = some r := h
  clear h
  replace H := Option.bind_eq_some_iff.mp H
  obtain ⟨t242, A30, H⟩ := H
  replace H : (if t242 = true then ((packed_Encode.f k l0).bind fun bt243 => (if (l0.length : Int) > 4096 then (if bt243.2 = 4 then (some ((bt243.1.length : Int) == 0)) else (some false)) else ((packed_Decode.f k bt243.1).bind fun bt247 => ((stoaref01_Cat.f k bt243.1 (([0] : List Int))).bind fun t254 => ((packed_Decode.f k t254).bind fun bt257 => (if bt243.2 = 0 then (if bt247.2 = 0 then (if bt257.2 = 3 then ((stoaref08_Same.f k bt247.1 l0).bind fun t261 => (stoalaw09_PackedBack.j0 k l0 a1 bt243.1 (!t261))) else (stoalaw09_PackedBack.j0 k l0 a1 bt243.1 true)) else (stoalaw09_PackedBack.j0 k l0 a1 bt243.1 true)) else (stoalaw09_PackedBack.j0 k l0 a1 bt243.1 true))))))) else (some false)) = some r := H
  have A3 := Aside0.mk A30
  clear A30
  by_cases c4 : t242 = true
  · subst c4
    have H1 : ((packed_Encode.f k l0).bind fun bt243 => (if (l0.length : Int) > 4096 then (if bt243.2 = 4 then (some ((bt243.1.length : Int) == 0)) else (some false)) else ((packed_Decode.f k bt243.1).bind fun bt247 => ((stoaref01_Cat.f k bt243.1 (([0] : List Int))).bind fun t254 => ((packed_Decode.f k t254).bind fun bt257 => (if bt243.2 = 0 then (if bt247.2 = 0 then (if bt257.2 = 3 then ((stoaref08_Same.f k bt247.1 l0).bind fun t261 => (stoalaw09_PackedBack.j0 k l0 a1 bt243.1 (!t261))) else (stoalaw09_PackedBack.j0 k l0 a1 bt243.1 true)) else (stoalaw09_PackedBack.j0 k l0 a1 bt243.1 true)) else (stoalaw09_PackedBack.j0 k l0 a1 bt243.1 true))))))) = some r := by rw [if_pos rfl] at H; exact H
    clear H
    have H := H1
    clear H1
    replace H := Option.bind_eq_some_iff.mp H
    obtain ⟨⟨t243, t244⟩, A50, H⟩ := H
    replace H : (if (l0.length : Int) > 4096 then (if t244 = 4 then (some ((t243.length : Int) == 0)) else (some false)) else ((packed_Decode.f k t243).bind fun bt247 => ((stoaref01_Cat.f k t243 (([0] : List Int))).bind fun t254 => ((packed_Decode.f k t254).bind fun bt257 => (if t244 = 0 then (if bt247.2 = 0 then (if bt257.2 = 3 then ((stoaref08_Same.f k bt247.1 l0).bind fun t261 => (stoalaw09_PackedBack.j0 k l0 a1 t243 (!t261))) else (stoalaw09_PackedBack.j0 k l0 a1 t243 true)) else (stoalaw09_PackedBack.j0 k l0 a1 t243 true)) else (stoalaw09_PackedBack.j0 k l0 a1 t243 true)))))) = some r := H
    have A5 := Aside0.mk A50
    clear A50
    by_cases c6 : (l0.length : Int) > 4096
    · rw [if_pos c6] at H
      have c6b0 : decide (4096 < (l0.length : Int)) = true := decide_eq_true c6
      have c6b1 : decide (4096 < l0.length) = true := decide_eq_true (by omega)
      clear c6
      by_cases c7 : t244 = 4
      · rw [if_pos c7] at H
        have c7b0 : (t244 == 4) = true := beq_iff_eq.mpr c7
        have c7b1 : (t244 != 4) = false := bne_eq_false_iff_eq.mpr c7
        clear c7
        obtain rfl := Option.some.inj H
        go_enter Try.func5, Try.ntmps5
        go_wp2_with (first | ((with_reducible refine gate_callee (f := 7) rfl ?_); refine goesL_ (some 12) rfl rfl Try.func7 (by kernel_rfl) rfl #[] rfl (by (try simp only [List.map_toArray, List.map_cons, List.map_nil]); first | done | rfl | (simp only [List.length_drop, List.length_take]; rfl)) ?_; (with_reducible refine (stoalaw09_alive.calls k  true _ A3.out).mono ?_); rintro e w8 ⟨rfl, hb⟩; refine ⟨_, rfl, ?_⟩; have n0_ := Aside0.mk (below_step (by repeat (first | (with_reducible first | exact HB.out | apply below_alloc | apply pw_below_drewN | apply below_drew1) | exact HB.out)) hb); clear HB; have HB := n0_; clear n0_; (try clear hb); (try clear hb2); (try clear hk); (try clear hi)) | ((with_reducible refine gate_callee (f := 9) rfl ?_); refine goesL_ (some 16) rfl rfl Try.func9 (by kernel_rfl) rfl #[.slice A0 l0.length c0] rfl (by (try simp only [List.map_toArray, List.map_cons, List.map_nil]); first | done | rfl | (simp only [List.length_drop, List.length_take]; rfl)) ?_; (with_reducible refine (packed_Encode.calls k _ _ l0 t243 t244 _ ?side1 ?side2 A5.out).mono ?_); (case side1 => repeat (first | exact (Kd.C_below HR0.out HB.out) | (with_reducible refine Kd.C_alloc ?_ _) | (with_reducible refine Kd.C_drewN ?_ _) | (with_reducible refine Kd.C_drew ?_))); (case side2 => exact HC0.out); rintro e w9 ⟨v245, rfl, ho0, hb⟩; refine ⟨_, rfl, ?_⟩; have n0_ := Aside0.mk (Kd.R_lower ho0 (below_size (by repeat (first | (with_reducible first | exact HB.out | apply below_alloc | apply pw_below_drewN | apply below_drew1) | exact HB.out)))); have n1_ := Aside0.mk (below_step (by repeat (first | (with_reducible first | exact HB.out | apply below_alloc | apply pw_below_drewN | apply below_drew1) | exact HB.out)) hb); clear HB; have HO246 := n0_; have HB := n1_; clear n0_ n1_; (try clear hb); (try clear hb2); (try clear hk); (try clear hi); (try clear ho0); obtain ⟨Ao10, co10, eo10⟩ := Kd.R_slice HO246.out; subst eo10))
        go_ret
        exact ⟨by first | rfl | (simp [errW_none, errW_some] <;> rfl) | (simp [*, errW_none, errW_some] <;> rfl), by repeat (first | (with_reducible first | exact HB.out | apply below_alloc | apply pw_below_drewN | apply below_drew1) | exact HB.out)⟩
      · rw [if_neg c7] at H
        have c7b0 : (t244 == 4) = false := beq_eq_false_iff_ne.mpr c7
        have c7b1 : (t244 != 4) = true := bne_iff_ne.mpr c7
        obtain rfl := Option.some.inj H
        go_enter Try.func5, Try.ntmps5
        go_wp2_with (first | ((with_reducible refine gate_callee (f := 7) rfl ?_); refine goesL_ (some 12) rfl rfl Try.func7 (by kernel_rfl) rfl #[] rfl (by (try simp only [List.map_toArray, List.map_cons, List.map_nil]); first | done | rfl | (simp only [List.length_drop, List.length_take]; rfl)) ?_; (with_reducible refine (stoalaw09_alive.calls k  true _ A3.out).mono ?_); rintro e w11 ⟨rfl, hb⟩; refine ⟨_, rfl, ?_⟩; have n0_ := Aside0.mk (below_step (by repeat (first | (with_reducible first | exact HB.out | apply below_alloc | apply pw_below_drewN | apply below_drew1) | exact HB.out)) hb); clear HB; have HB := n0_; clear n0_; (try clear hb); (try clear hb2); (try clear hk); (try clear hi)) | ((with_reducible refine gate_callee (f := 9) rfl ?_); refine goesL_ (some 16) rfl rfl Try.func9 (by kernel_rfl) rfl #[.slice A0 l0.length c0] rfl (by (try simp only [List.map_toArray, List.map_cons, List.map_nil]); first | done | rfl | (simp only [List.length_drop, List.length_take]; rfl)) ?_; (with_reducible refine (packed_Encode.calls k _ _ l0 t243 t244 _ ?side1 ?side2 A5.out).mono ?_); (case side1 => repeat (first | exact (Kd.C_below HR0.out HB.out) | (with_reducible refine Kd.C_alloc ?_ _) | (with_reducible refine Kd.C_drewN ?_ _) | (with_reducible refine Kd.C_drew ?_))); (case side2 => exact HC0.out); rintro e w12 ⟨v245, rfl, ho0, hb⟩; refine ⟨_, rfl, ?_⟩; have n0_ := Aside0.mk (Kd.R_lower ho0 (below_size (by repeat (first | (with_reducible first | exact HB.out | apply below_alloc | apply pw_below_drewN | apply below_drew1) | exact HB.out)))); have n1_ := Aside0.mk (below_step (by repeat (first | (with_reducible first | exact HB.out | apply below_alloc | apply pw_below_drewN | apply below_drew1) | exact HB.out)) hb); clear HB; have HO246 := n0_; have HB := n1_; clear n0_ n1_; (try clear hb); (try clear hb2); (try clear hk); (try clear hi); (try clear ho0)))
        go_ret
        exact ⟨by first | rfl | (simp [errW_none, errW_some] <;> rfl) | (simp [*, errW_none, errW_some] <;> rfl), by repeat (first | (with_reducible first | exact HB.out | apply below_alloc | apply pw_below_drewN | apply below_drew1) | exact HB.out)⟩
    · rw [if_neg c6] at H
      have c6b0 : decide (4096 < (l0.length : Int)) = false := decide_eq_false c6
      have c6b1 : decide (4096 < l0.length) = false := decide_eq_false (by omega)
      clear c6
      replace H := Option.bind_eq_some_iff.mp H
      obtain ⟨⟨t247, t248⟩, A130, H⟩ := H
      replace H : ((stoaref01_Cat.f k t243 (([0] : List Int))).bind fun t254 => ((packed_Decode.f k t254).bind fun bt257 => (if t244 = 0 then (if t248 = 0 then (if bt257.2 = 3 then ((stoaref08_Same.f k t247 l0).bind fun t261 => (stoalaw09_PackedBack.j0 k l0 a1 t243 (!t261))) else (stoalaw09_PackedBack.j0 k l0 a1 t243 true)) else (stoalaw09_PackedBack.j0 k l0 a1 t243 true)) else (stoalaw09_PackedBack.j0 k l0 a1 t243 true)))) = some r := H
      have A13 := Aside0.mk A130
      clear A130
      obtain ⟨y251, hy251⟩ : ∃ y_ : List Int, y_ = (([0] : List Int)) := ⟨_, rfl⟩
      replace H : ((stoaref01_Cat.f k t243 y251).bind fun t254 => ((packed_Decode.f k t254).bind fun bt257 => (if t244 = 0 then (if t248 = 0 then (if bt257.2 = 3 then ((stoaref08_Same.f k t247 l0).bind fun t261 => (stoalaw09_PackedBack.j0 k l0 a1 t243 (!t261))) else (stoalaw09_PackedBack.j0 k l0 a1 t243 true)) else (stoalaw09_PackedBack.j0 k l0 a1 t243 true)) else (stoalaw09_PackedBack.j0 k l0 a1 t243 true)))) = some r := by first | (rw [hy251]; with_reducible exact H) | (have H2_ := (Option.bind_some _ _).symm.trans H; rw [hy251]; with_reducible exact H2_) | (have H2_ := (Option.bind_some _ _).symm.trans H; with_reducible exact H2_) | with_reducible exact H | (rw [hy251]; exact H) | exact H
      have Ny251 := Aside0.mk hy251
      clear hy251
      replace H := Option.bind_eq_some_iff.mp H
      obtain ⟨t254, A140, H⟩ := H
      replace H : ((packed_Decode.f k t254).bind fun bt257 => (if t244 = 0 then (if t248 = 0 then (if bt257.2 = 3 then ((stoaref08_Same.f k t247 l0).bind fun t261 => (stoalaw09_PackedBack.j0 k l0 a1 t243 (!t261))) else (stoalaw09_PackedBack.j0 k l0 a1 t243 true)) else (stoalaw09_PackedBack.j0 k l0 a1 t243 true)) else (stoalaw09_PackedBack.j0 k l0 a1 t243 true))) = some r := H
      have A14 := Aside0.mk A140
      clear A140
      replace H := Option.bind_eq_some_iff.mp H
      obtain ⟨⟨t257, t258⟩, A150, H⟩ := H
      replace H : (if t244 = 0 then (if t248 = 0 then (if t258 = 3 then ((stoaref08_Same.f k t247 l0).bind fun t261 => (stoalaw09_PackedBack.j0 k l0 a1 t243 (!t261))) else (stoalaw09_PackedBack.j0 k l0 a1 t243 true)) else (stoalaw09_PackedBack.j0 k l0 a1 t243 true)) else (stoalaw09_PackedBack.j0 k l0 a1 t243 true)) = some r := H
      have A15 := Aside0.mk A150
      clear A150
      have HC16 := Aside0.mk H
      clear H
      go_enter Try.func5, Try.ntmps5
      go_upto_region 8 with (first | ((with_reducible refine gate_callee (f := 7) rfl ?_); refine goesL_ (some 12) rfl rfl Try.func7 (by kernel_rfl) rfl #[] rfl (by (try simp only [List.map_toArray, List.map_cons, List.map_nil]); first | done | rfl | (simp only [List.length_drop, List.length_take]; rfl)) ?_; (with_reducible refine (stoalaw09_alive.calls k  true _ A3.out).mono ?_); rintro e w17 ⟨rfl, hb⟩; refine ⟨_, rfl, ?_⟩; have n0_ := Aside0.mk (below_step (by repeat (first | (with_reducible first | exact HB.out | apply below_alloc | apply pw_below_drewN | apply below_drew1) | exact HB.out)) hb); clear HB; have HB := n0_; clear n0_; (try clear hb); (try clear hb2); (try clear hk); (try clear hi)) | ((with_reducible refine gate_callee (f := 9) rfl ?_); refine goesL_ (some 16) rfl rfl Try.func9 (by kernel_rfl) rfl #[.slice A0 l0.length c0] rfl (by (try simp only [List.map_toArray, List.map_cons, List.map_nil]); first | done | rfl | (simp only [List.length_drop, List.length_take]; rfl)) ?_; (with_reducible refine (packed_Encode.calls k _ _ l0 t243 t244 _ ?side1 ?side2 A5.out).mono ?_); (case side1 => repeat (first | exact (Kd.C_below HR0.out HB.out) | (with_reducible refine Kd.C_alloc ?_ _) | (with_reducible refine Kd.C_drewN ?_ _) | (with_reducible refine Kd.C_drew ?_))); (case side2 => exact HC0.out); rintro e w18 ⟨v245, rfl, ho0, hb⟩; refine ⟨_, rfl, ?_⟩; have n0_ := Aside0.mk (Kd.R_lower ho0 (below_size (by repeat (first | (with_reducible first | exact HB.out | apply below_alloc | apply pw_below_drewN | apply below_drew1) | exact HB.out)))); have n1_ := Aside0.mk (below_step (by repeat (first | (with_reducible first | exact HB.out | apply below_alloc | apply pw_below_drewN | apply below_drew1) | exact HB.out)) hb); clear HB; have HO246 := n0_; have HB := n1_; clear n0_ n1_; (try clear hb); (try clear hb2); (try clear hk); (try clear hi); (try clear ho0); obtain ⟨Ao19, co19, eo19⟩ := Kd.R_slice HO246.out; subst eo19) | ((with_reducible refine gate_callee (f := 14) rfl ?_); refine goesL_ (some 31) rfl rfl Try.func14 (by kernel_rfl) rfl #[.slice Ao19 t243.length co19] rfl (by (try simp only [List.map_toArray, List.map_cons, List.map_nil]); first | done | rfl | (simp only [List.length_drop, List.length_take]; rfl)) ?_; (with_reducible refine (packed_Decode.calls k _ _ t243 t247 t248 _ ?side1 ?side2 A13.out).mono ?_); (case side1 => repeat (first | exact (Kd.R_reads' HO246.out).2.2 | (with_reducible refine Kd.C_alloc ?_ _) | (with_reducible refine Kd.C_drewN ?_ _) | (with_reducible refine Kd.C_drew ?_))); (case side2 => exact (Kd.R_reads' HO246.out).2.1); rintro e w20 ⟨v249, rfl, ho0, hb⟩; refine ⟨_, rfl, ?_⟩; have n0_ := Aside0.mk (Kd.R_below (by (with_reducible repeat (first | apply Kd.R_alloc | apply Kd.R_drewN | apply Kd.R_drew)); exact HO246.out) hb); have n1_ := Aside0.mk (Kd.R_lower ho0 (below_size (by repeat (first | (with_reducible first | exact HB.out | apply below_alloc | apply pw_below_drewN | apply below_drew1) | exact HB.out)))); have n2_ := Aside0.mk (below_step (by repeat (first | (with_reducible first | exact HB.out | apply below_alloc | apply pw_below_drewN | apply below_drew1) | exact HB.out)) hb); clear HO246; clear HB; have HO246 := n0_; have HO250 := n1_; have HB := n2_; clear n0_ n1_ n2_; (try clear hb); (try clear hb2); (try clear hk); (try clear hi); (try clear ho0)) | ((with_reducible refine gate_dst (N := 36) rfl ?_); (try (refine gate_guard (by rfl) ?_; dsimp only)); refine Kd.R_lit (Kd.int .u8) _ 5 ?hg (N := 36) ?hd (xs := ([0] : List Int)) (inner := [.int .u8 0]) (ok := fun _ => True) (okp := fun _ => True) ?hr ?hp (fun _ hk => hk) trivial (Below.refl _ _) (Nat.le_refl _) (by simp) ?_; (case hd => rfl); (case hg => rfl); (case hr => first | (go_simp; done) | (go_simp; rfl)); (case hp => exact (Reps.one (show Kd.M (Kd.int .u8) _ _ _ 0 [.int .u8 0] from rfl) (Reps.none _ _))); intro v252 w21 ho22 hb hg_ hnew_; clear hg_ hnew_; (first | rw [← Ny251.out] at ho22 | (simp only [Int.reduceToNat] at ho22; rw [← Ny251.out] at ho22)); have n0_ := Aside0.mk (Kd.R_elder' (by (with_reducible repeat (first | apply Kd.R_alloc | apply Kd.R_drewN | apply Kd.R_drew)); exact HO246.out) (Kd.R_base ho22) hb); have n1_ := Aside0.mk (Kd.R_below (by (with_reducible repeat (first | apply Kd.R_alloc | apply Kd.R_drewN | apply Kd.R_drew)); exact HO250.out) hb); have n2_ := Aside0.mk (Kd.R_lower (Kd.R_new' ho22 (Kd.R_lt (by (with_reducible repeat (first | apply Kd.R_alloc | apply Kd.R_drewN | apply Kd.R_drew)); exact HO246.out))) (below_size (by repeat (first | (with_reducible first | exact HB.out | apply below_alloc | apply pw_below_drewN | apply below_drew1) | exact HB.out)))); have n3_ := Aside0.mk (below_step (by repeat (first | (with_reducible first | exact HB.out | apply below_alloc | apply pw_below_drewN | apply below_drew1) | exact HB.out)) hb); clear HO246; clear HO250; clear HB; have HO246 := n0_; have HO250 := n1_; have HO253 := n2_; have HB := n3_; clear n0_ n1_ n2_ n3_; clear hb ho22; obtain ⟨Ao23, co23, eo23⟩ := Kd.R_slice HO253.out; subst eo23) | ((with_reducible refine gate_callee (f := 21) rfl ?_); refine goesL_ (some 37) rfl rfl Try.func21 (by kernel_rfl) rfl #[.slice Ao19 t243.length co19, .slice Ao23 y251.length co23] rfl (by (try simp only [List.map_toArray, List.map_cons, List.map_nil]); first | done | rfl | (simp only [List.length_drop, List.length_take]; rfl)) ?_; (with_reducible refine (stoaref01_Cat.calls k _ _ t243 _ _ y251 t254 _ ?side1 ?side2 ?side3 ?side4 A14.out).mono ?_); (case side1 => repeat (first | exact (Kd.R_reads' HO246.out).2.2 | (with_reducible refine Kd.C_alloc ?_ _) | (with_reducible refine Kd.C_drewN ?_ _) | (with_reducible refine Kd.C_drew ?_))); (case side2 => exact (Kd.R_reads' HO246.out).2.1); (case side3 => repeat (first | exact (Kd.R_reads' HO253.out).2.2 | (with_reducible refine Kd.C_alloc ?_ _) | (with_reducible refine Kd.C_drewN ?_ _) | (with_reducible refine Kd.C_drew ?_))); (case side4 => exact (Kd.R_reads' HO253.out).2.1); rintro e w24 ⟨v255, rfl, ho0, hb⟩; refine ⟨_, rfl, ?_⟩; have n0_ := Aside0.mk (Kd.R_elder' (by (with_reducible repeat (first | apply Kd.R_alloc | apply Kd.R_drewN | apply Kd.R_drew)); exact HO246.out) (Kd.R_base ho0) hb); have n1_ := Aside0.mk (Kd.R_below (by (with_reducible repeat (first | apply Kd.R_alloc | apply Kd.R_drewN | apply Kd.R_drew)); exact HO250.out) hb); have n2_ := Aside0.mk (Kd.R_elder' (by (with_reducible repeat (first | apply Kd.R_alloc | apply Kd.R_drewN | apply Kd.R_drew)); exact HO253.out) (Kd.R_base ho0) hb); have n3_ := Aside0.mk (Kd.R_lower (Kd.R_new' (Kd.R_new' ho0 (Kd.R_lt (by (with_reducible repeat (first | apply Kd.R_alloc | apply Kd.R_drewN | apply Kd.R_drew)); exact HO246.out))) (Kd.R_lt (by (with_reducible repeat (first | apply Kd.R_alloc | apply Kd.R_drewN | apply Kd.R_drew)); exact HO253.out))) (below_size (by repeat (first | (with_reducible first | exact HB.out | apply below_alloc | apply pw_below_drewN | apply below_drew1) | exact HB.out)))); have n4_ := Aside0.mk (below_step (by repeat (first | (with_reducible first | exact HB.out | apply below_alloc | apply pw_below_drewN | apply below_drew1) | exact HB.out)) hb); clear HO246; clear HO250; clear HO253; clear HB; have HO246 := n0_; have HO250 := n1_; have HO253 := n2_; have HO256 := n3_; have HB := n4_; clear n0_ n1_ n2_ n3_ n4_; (try clear hb); (try clear hb2); (try clear hk); (try clear hi); (try clear ho0); obtain ⟨Ao25, co25, eo25⟩ := Kd.R_slice HO256.out; subst eo25) | ((with_reducible refine gate_callee (f := 14) rfl ?_); refine goesL_ (some 38) rfl rfl Try.func14 (by kernel_rfl) rfl #[.slice Ao25 t254.length co25] rfl (by (try simp only [List.map_toArray, List.map_cons, List.map_nil]); first | done | rfl | (simp only [List.length_drop, List.length_take]; rfl)) ?_; (with_reducible refine (packed_Decode.calls k _ _ t254 t257 t258 _ ?side1 ?side2 A15.out).mono ?_); (case side1 => repeat (first | exact (Kd.R_reads' HO256.out).2.2 | (with_reducible refine Kd.C_alloc ?_ _) | (with_reducible refine Kd.C_drewN ?_ _) | (with_reducible refine Kd.C_drew ?_))); (case side2 => exact (Kd.R_reads' HO256.out).2.1); rintro e w26 ⟨v259, rfl, ho0, hb⟩; refine ⟨_, rfl, ?_⟩; have n0_ := Aside0.mk (Kd.R_below (by (with_reducible repeat (first | apply Kd.R_alloc | apply Kd.R_drewN | apply Kd.R_drew)); exact HO246.out) hb); have n1_ := Aside0.mk (Kd.R_elder' (by (with_reducible repeat (first | apply Kd.R_alloc | apply Kd.R_drewN | apply Kd.R_drew)); exact HO250.out) (Kd.R_base ho0) hb); have n2_ := Aside0.mk (Kd.R_below (by (with_reducible repeat (first | apply Kd.R_alloc | apply Kd.R_drewN | apply Kd.R_drew)); exact HO253.out) hb); have n3_ := Aside0.mk (Kd.R_below (by (with_reducible repeat (first | apply Kd.R_alloc | apply Kd.R_drewN | apply Kd.R_drew)); exact HO256.out) hb); have n4_ := Aside0.mk (Kd.R_lower (Kd.R_new' ho0 (Kd.R_lt (by (with_reducible repeat (first | apply Kd.R_alloc | apply Kd.R_drewN | apply Kd.R_drew)); exact HO250.out))) (below_size (by repeat (first | (with_reducible first | exact HB.out | apply below_alloc | apply pw_below_drewN | apply below_drew1) | exact HB.out)))); have n5_ := Aside0.mk (below_step (by repeat (first | (with_reducible first | exact HB.out | apply below_alloc | apply pw_below_drewN | apply below_drew1) | exact HB.out)) hb); clear HO246; clear HO250; clear HO253; clear HO256; clear HB; have HO246 := n0_; have HO250 := n1_; have HO253 := n2_; have HO256 := n3_; have HO260 := n4_; have HB := n5_; clear n0_ n1_ n2_ n3_ n4_ n5_; (try clear hb); (try clear hb2); (try clear hk); (try clear hi); (try clear ho0)))
      (try simp only [Act.put, List.setIfInBounds_toArray, List.set_cons_zero, List.set_cons_succ])
      go_cut [56] (fun v56 wc => ∃ (kq : Nat) (x56_15 : Bool), v56 = .bool x56_15 ∧ Aside0 (stoalaw09_PackedBack.j0 kq l0 a1 t243 x56_15 = some r) ∧ Aside0 (kq ≤ k) ∧ Aside0 (Kd.R (Kd.int .u8) 5 wc w.heap.size (fun _ => True) (.slice Ao19 t243.length co19) t243) ∧ Aside0 (Below w.heap.size w wc))
      case first =>
        have H := HC16.out
        clear HC16
        by_cases c27 : t244 = 0
        · rw [if_pos c27] at H
          have c27b0 : (t244 == 0) = true := beq_iff_eq.mpr c27
          have c27b1 : (t244 != 0) = false := bne_eq_false_iff_eq.mpr c27
          clear c27
          (first | rw [c27b0] | (simp only [i64_w, i32_w]; rw [c27b0]) | skip)
          by_cases c28 : t248 = 0
          · rw [if_pos c28] at H
            have c28b0 : (t248 == 0) = true := beq_iff_eq.mpr c28
            have c28b1 : (t248 != 0) = false := bne_eq_false_iff_eq.mpr c28
            clear c28
            by_cases c29 : t258 = 3
            · rw [if_pos c29] at H
              have c29b0 : (t258 == 3) = true := beq_iff_eq.mpr c29
              have c29b1 : (t258 != 3) = false := bne_eq_false_iff_eq.mpr c29
              clear c29
              replace H := Option.bind_eq_some_iff.mp H
              obtain ⟨t261, A300, H⟩ := H
              replace H : (stoalaw09_PackedBack.j0 k l0 a1 t243 (!t261)) = some r := H
              have A30 := Aside0.mk A300
              clear A300
              have H' := Aside0.mk H
              clear H
              obtain ⟨Ao31, co31, eo31⟩ := Kd.R_slice HO250.out
              subst eo31
              go_wp2_with (first | (go_at_call 12; (with_reducible refine (stoaref08_Same.calls k _ _ t247 _ _ l0 t261 _ ?side1 ?side2 ?side3 ?side4 A30.out).mono ?_); (case side1 => repeat (first | exact (Kd.R_reads' HO250.out).2.2 | (with_reducible refine Kd.C_alloc ?_ _) | (with_reducible refine Kd.C_drewN ?_ _) | (with_reducible refine Kd.C_drew ?_))); (case side2 => exact (Kd.R_reads' HO250.out).2.1); (case side3 => repeat (first | exact (Kd.C_below HR0.out HB.out) | (with_reducible refine Kd.C_alloc ?_ _) | (with_reducible refine Kd.C_drewN ?_ _) | (with_reducible refine Kd.C_drew ?_))); (case side4 => exact HC0.out); rintro e w' ⟨rfl, ⟨nd, rfl⟩⟩))
              go_meet
              case rel => exact ⟨_, (!t261), (by first | rfl | (simp; done) | (simp [*]; done)), H', ⟨by first | omega | exact Nat.le_refl _⟩, ⟨by (with_reducible repeat (first | apply Kd.R_alloc | apply Kd.R_drewN | apply Kd.R_drew)); exact Kd.R_mono HO246.out (fun _ hk => trivial)⟩, ⟨by repeat (first | (with_reducible first | exact HB.out | apply below_alloc | apply pw_below_drewN | apply below_drew1) | exact HB.out)⟩⟩
            · rw [if_neg c29] at H
              have c29b0 : (t258 == 3) = false := beq_eq_false_iff_ne.mpr c29
              have c29b1 : (t258 != 3) = true := bne_iff_ne.mpr c29
              have H' := Aside0.mk H
              clear H
              go_wp2
              go_meet
              case rel => exact ⟨_, (true), (by first | rfl | (simp; done) | (simp [*]; done)), H', ⟨by first | omega | exact Nat.le_refl _⟩, ⟨by (with_reducible repeat (first | apply Kd.R_alloc | apply Kd.R_drewN | apply Kd.R_drew)); exact Kd.R_mono HO246.out (fun _ hk => trivial)⟩, ⟨by repeat (first | (with_reducible first | exact HB.out | apply below_alloc | apply pw_below_drewN | apply below_drew1) | exact HB.out)⟩⟩
          · rw [if_neg c28] at H
            have c28b0 : (t248 == 0) = false := beq_eq_false_iff_ne.mpr c28
            have c28b1 : (t248 != 0) = true := bne_iff_ne.mpr c28
            have H' := Aside0.mk H
            clear H
            go_wp2
            go_meet
            case rel => exact ⟨_, (true), (by first | rfl | (simp; done) | (simp [*]; done)), H', ⟨by first | omega | exact Nat.le_refl _⟩, ⟨by (with_reducible repeat (first | apply Kd.R_alloc | apply Kd.R_drewN | apply Kd.R_drew)); exact Kd.R_mono HO246.out (fun _ hk => trivial)⟩, ⟨by repeat (first | (with_reducible first | exact HB.out | apply below_alloc | apply pw_below_drewN | apply below_drew1) | exact HB.out)⟩⟩
        · rw [if_neg c27] at H
          have c27b0 : (t244 == 0) = false := beq_eq_false_iff_ne.mpr c27
          have c27b1 : (t244 != 0) = true := bne_iff_ne.mpr c27
          (first | rw [c27b0] | (simp only [i64_w, i32_w]; rw [c27b0]) | skip)
          have H' := Aside0.mk H
          clear H
          go_wp2
          go_meet
          case rel => exact ⟨_, (true), (by first | rfl | (simp; done) | (simp [*]; done)), H', ⟨by first | omega | exact Nat.le_refl _⟩, ⟨by (with_reducible repeat (first | apply Kd.R_alloc | apply Kd.R_drewN | apply Kd.R_drew)); exact Kd.R_mono HO246.out (fun _ hk => trivial)⟩, ⟨by repeat (first | (with_reducible first | exact HB.out | apply below_alloc | apply pw_below_drewN | apply below_drew1) | exact HB.out)⟩⟩
      case rest =>
        clear HC16
        try clear c1
        try clear c2
        try clear p2
        try clear c4
        try clear c5
        try clear c6
        try clear c6b0
        try clear c6b1
        try clear c7
        try clear c7b0
        try clear c7b1
        try clear c9
        try clear c14
        try clear c21
        try clear c27
        try clear c27b0
        try clear c27b1
        try clear c28
        try clear c28b0
        try clear c28b1
        try clear c29
        try clear c29b0
        try clear c29b1
        obtain ⟨kq, x56_15, rfl, HA, HJ15, HO_5, HB⟩ := hcut
        cases kq with
        | zero => exact absurd HA.out (by simp [stoalaw09_PackedBack.j0])
        | succ kj15 =>
          have H := HA.out
          clear HA
          simp only [stoalaw09_PackedBack.j0] at H
          by_cases c32 : x56_15 = true
          · subst c32
            have H1 : (some false) = some r := by rw [if_pos rfl] at H; exact H
            clear H
            have H := H1
            clear H1
            obtain rfl := Option.some.inj H
            go_wp2
            go_ret
            exact ⟨by first | rfl | (simp [errW_none, errW_some] <;> rfl) | (simp [*, errW_none, errW_some] <;> rfl), by repeat (first | (with_reducible first | exact HB.out | apply below_alloc | apply pw_below_drewN | apply below_drew1) | exact HB.out)⟩
          · replace c32 := Bool.eq_false_iff.mpr c32
            subst c32
            have H1 : (if (l0.length : Int) = 0 then (stoalaw09_PackedBack.j1 kj15 l0 a1 t243 true) else (if a1 < 0 then (stoalaw09_PackedBack.j1 kj15 l0 a1 t243 true) else (stoalaw09_PackedBack.j1 kj15 l0 a1 t243 (decide (a1 > 63))))) = some r := by rw [if_neg (show ¬ (false = true) by decide)] at H; exact H
            clear H
            have H := H1
            clear H1
            have HC33 := Aside0.mk H
            clear H
            go_upto_region 10 with (fail)
            go_cut [67] (fun v67 wc => ∃ (kq : Nat) (x67_32 : Bool), v67 = .bool x67_32 ∧ Aside0 (stoalaw09_PackedBack.j1 kq l0 a1 t243 x67_32 = some r) ∧ Aside0 (kq ≤ kj15) ∧ Aside0 (Kd.R (Kd.int .u8) 5 wc w.heap.size (fun _ => True) (.slice Ao19 t243.length co19) t243) ∧ Aside0 (Below w.heap.size w wc))
            case first =>
              have H := HC33.out
              clear HC33
              by_cases c34 : (l0.length : Int) = 0
              · rw [if_pos c34] at H
                have c34b0 : ((l0.length : Int) == 0) = true := beq_iff_eq.mpr c34
                have c34b1 : ((l0.length : Int) != 0) = false := bne_eq_false_iff_eq.mpr c34
                clear c34
                (first | rw [c34b0] | (simp only [i64_w, i32_w]; rw [c34b0]) | skip)
                have H' := Aside0.mk H
                clear H
                go_wp2
                go_meet
                case rel => exact ⟨_, (true), (by first | rfl | (simp; done) | (simp [*]; done)), H', ⟨by have := HJ15.out; first | omega | exact Nat.le_refl _⟩, ⟨by (with_reducible repeat (first | apply Kd.R_alloc | apply Kd.R_drewN | apply Kd.R_drew)); exact HO_5.out⟩, ⟨by repeat (first | (with_reducible first | exact HB.out | apply below_alloc | apply pw_below_drewN | apply below_drew1) | exact HB.out)⟩⟩
              · rw [if_neg c34] at H
                have c34b0 : ((l0.length : Int) == 0) = false := beq_eq_false_iff_ne.mpr c34
                have c34b1 : ((l0.length : Int) != 0) = true := bne_iff_ne.mpr c34
                have c34b2 : ¬ (l0 = []) := fun h_ => c34 (by rw [h_]; rfl)
                (first | rw [c34b0] | (simp only [i64_w, i32_w]; rw [c34b0]) | skip)
                by_cases c35 : a1 < 0
                · rw [if_pos c35] at H
                  have c35b0 : decide (a1 < 0) = true := decide_eq_true c35
                  clear c35
                  have H' := Aside0.mk H
                  clear H
                  go_wp2
                  go_meet
                  case rel => exact ⟨_, (true), (by first | rfl | (simp; done) | (simp [*]; done)), H', ⟨by have := HJ15.out; first | omega | exact Nat.le_refl _⟩, ⟨by (with_reducible repeat (first | apply Kd.R_alloc | apply Kd.R_drewN | apply Kd.R_drew)); exact HO_5.out⟩, ⟨by repeat (first | (with_reducible first | exact HB.out | apply below_alloc | apply pw_below_drewN | apply below_drew1) | exact HB.out)⟩⟩
                · rw [if_neg c35] at H
                  have c35b0 : decide (a1 < 0) = false := decide_eq_false c35
                  clear c35
                  have H' := Aside0.mk H
                  clear H
                  go_wp2
                  go_meet
                  case rel => exact ⟨_, (decide (a1 > 63)), (by first | rfl | (simp; done) | (simp [*]; done)), H', ⟨by have := HJ15.out; first | omega | exact Nat.le_refl _⟩, ⟨by (with_reducible repeat (first | apply Kd.R_alloc | apply Kd.R_drewN | apply Kd.R_drew)); exact HO_5.out⟩, ⟨by repeat (first | (with_reducible first | exact HB.out | apply below_alloc | apply pw_below_drewN | apply below_drew1) | exact HB.out)⟩⟩
            case rest =>
              clear HC33
              try clear c1
              try clear c2
              try clear p2
              try clear c3
              try clear c4
              try clear c5
              try clear c6
              try clear c6b0
              try clear c6b1
              try clear c7
              try clear c7b0
              try clear c7b1
              try clear c9
              try clear c14
              try clear c21
              try clear c27
              try clear c27b0
              try clear c27b1
              try clear c28
              try clear c28b0
              try clear c28b1
              try clear c29
              try clear c29b0
              try clear c29b1
              try clear c32
              try clear c34
              try clear c34b0
              try clear c34b1
              try clear c34b2
              try clear c35
              try clear c35b0
              try clear p2
              obtain ⟨kq, x67_32, rfl, HA, HJ32, HO_5, HB⟩ := hcut
              cases kq with
              | zero => exact absurd HA.out (by simp [stoalaw09_PackedBack.j1])
              | succ kj32 =>
                have H := HA.out
                clear HA
                simp only [stoalaw09_PackedBack.j1] at H
                by_cases c36 : x67_32 = true
                · subst c36
                  have H1 : (some true) = some r := by rw [if_pos rfl] at H; exact H
                  clear H
                  have H := H1
                  clear H1
                  obtain rfl := Option.some.inj H
                  go_wp2
                  go_ret
                  exact ⟨by first | rfl | (simp [errW_none, errW_some] <;> rfl) | (simp [*, errW_none, errW_some] <;> rfl), by repeat (first | (with_reducible first | exact HB.out | apply below_alloc | apply pw_below_drewN | apply below_drew1) | exact HB.out)⟩
                · replace c36 := Bool.eq_false_iff.mpr c36
                  subst c36
                  have H1 : ((stoaref09_Greatest.f kj32 l0).bind fun t262 => ((stoaref09_Least.f kj32 l0).bind fun t263 => (if 0 ≤ (IntKind.u64.wrap (a1)) then (if (shr .u64 (IntKind.u64.wrap ((IntKind.u64.wrap (t262)) - (IntKind.u64.wrap (t263)))) (IntKind.u64.wrap (a1))) = 0 then (some (decide ((t243.length : Int) ≤ (wrap64 (13 + (wrap64 (Int.tdiv (wrap64 ((wrap64 ((l0.length : Int) * a1)) + 7)) 8))))))) else (some true)) else (none)))) = some r := by rw [if_neg (show ¬ (false = true) by decide)] at H; exact H
                  clear H
                  have H := H1
                  clear H1
                  replace H := Option.bind_eq_some_iff.mp H
                  obtain ⟨t262, A370, H⟩ := H
                  replace H : ((stoaref09_Least.f kj32 l0).bind fun t263 => (if 0 ≤ (IntKind.u64.wrap (a1)) then (if (shr .u64 (IntKind.u64.wrap ((IntKind.u64.wrap (t262)) - (IntKind.u64.wrap (t263)))) (IntKind.u64.wrap (a1))) = 0 then (some (decide ((t243.length : Int) ≤ (wrap64 (13 + (wrap64 (Int.tdiv (wrap64 ((wrap64 ((l0.length : Int) * a1)) + 7)) 8))))))) else (some true)) else (none))) = some r := H
                  have A37 := Aside0.mk A370
                  clear A370
                  replace H := Option.bind_eq_some_iff.mp H
                  obtain ⟨t263, A380, H⟩ := H
                  replace H : (if 0 ≤ (IntKind.u64.wrap (a1)) then (if (shr .u64 (IntKind.u64.wrap ((IntKind.u64.wrap (t262)) - (IntKind.u64.wrap (t263)))) (IntKind.u64.wrap (a1))) = 0 then (some (decide ((t243.length : Int) ≤ (wrap64 (13 + (wrap64 (Int.tdiv (wrap64 ((wrap64 ((l0.length : Int) * a1)) + 7)) 8))))))) else (some true)) else (none)) = some r := H
                  have A38 := Aside0.mk A380
                  clear A380
                  obtain ⟨ji39, hji39⟩ : ∃ j_ : Int, (IntKind.u64.wrap (a1)) = j_ := ⟨_, rfl⟩
                  replace H : (if 0 ≤ (ji39) then (if (shr .u64 (IntKind.u64.wrap ((IntKind.u64.wrap (t262)) - (IntKind.u64.wrap (t263)))) (ji39)) = 0 then (some (decide ((t243.length : Int) ≤ (wrap64 (13 + (wrap64 (Int.tdiv (wrap64 ((wrap64 ((l0.length : Int) * a1)) + 7)) 8))))))) else (some true)) else (none)) = some r := by first | (rw [hji39] at H; exact H) | (simp only [hji39] at H ⊢; exact H)
                  (try rw [hji39] at A37)
                  (try rw [hji39] at A38)
                  by_cases c40 : 0 ≤ (ji39)
                  · rw [if_pos c40] at H
                    have c40b0 := eq_true c40
                    have c40b1 : decide (0 ≤ (ji39)) = true := decide_eq_true c40
                    clear c40
                    obtain ⟨ji41, hji41⟩ : ∃ j_ : Int, (shr .u64 (IntKind.u64.wrap ((IntKind.u64.wrap (t262)) - (IntKind.u64.wrap (t263)))) (ji39)) = j_ := ⟨_, rfl⟩
                    replace H : (if (ji41) = 0 then (some (decide ((t243.length : Int) ≤ (wrap64 (13 + (wrap64 (Int.tdiv (wrap64 ((wrap64 ((l0.length : Int) * a1)) + 7)) 8))))))) else (some true)) = some r := by first | (rw [hji41] at H; exact H) | (simp only [hji41] at H ⊢; exact H)
                    (try rw [hji41] at A37)
                    (try rw [hji41] at A38)
                    have hji41_ : ((IntKind.u64.wrap ((IntKind.u64.wrap (t262)) - (IntKind.u64.wrap (t263)))) / 2 ^ min (ji39).toNat 64) = ji41 := hji41
                    have hji41z : (ji39) ≤ 64 → ((IntKind.u64.wrap ((IntKind.u64.wrap (t262)) - (IntKind.u64.wrap (t263)))) / 2 ^ (ji39).toNat) = ji41 := shr_small hji41
                    by_cases c42 : (ji41) = 0
                    · rw [if_pos c42] at H
                      have c42b0 : ((ji41) == 0) = true := beq_iff_eq.mpr c42
                      have c42b1 : ((ji41) != 0) = false := bne_eq_false_iff_eq.mpr c42
                      clear c42
                      obtain rfl := Option.some.inj H
                      go_wp2_with (first | ((with_reducible refine gate_callee (f := 20) rfl ?_); refine goesL_ (some 69) rfl rfl Try.func20 (by kernel_rfl) rfl #[.slice A0 l0.length c0] rfl (by (try simp only [List.map_toArray, List.map_cons, List.map_nil]); first | done | rfl | (simp only [List.length_drop, List.length_take]; rfl)) ?_; (with_reducible refine (stoaref09_Greatest.calls kj32 _ _ l0 t262 _ ?side1 ?side2 A37.out).mono ?_); (case side1 => repeat (first | exact (Kd.C_below HR0.out HB.out) | (with_reducible refine Kd.C_alloc ?_ _) | (with_reducible refine Kd.C_drewN ?_ _) | (with_reducible refine Kd.C_drew ?_))); (case side2 => exact HC0.out); rintro e w' ⟨rfl, ⟨nd, rfl⟩⟩; refine ⟨_, rfl, ?_⟩) | ((with_reducible refine gate_callee (f := 19) rfl ?_); refine goesL_ (some 72) rfl rfl Try.func19 (by kernel_rfl) rfl #[.slice A0 l0.length c0] rfl (by (try simp only [List.map_toArray, List.map_cons, List.map_nil]); first | done | rfl | (simp only [List.length_drop, List.length_take]; rfl)) ?_; (with_reducible refine (stoaref09_Least.calls kj32 _ _ l0 t263 _ ?side1 ?side2 A38.out).mono ?_); (case side1 => repeat (first | exact (Kd.C_below HR0.out (by repeat (first | (with_reducible first | exact HB.out | apply below_alloc | apply pw_below_drewN | apply below_drew1) | exact HB.out))) | (with_reducible refine Kd.C_alloc ?_ _) | (with_reducible refine Kd.C_drewN ?_ _) | (with_reducible refine Kd.C_drew ?_))); (case side2 => exact HC0.out); rintro e w' ⟨rfl, ⟨nd, rfl⟩⟩; refine ⟨_, rfl, ?_⟩))
                      go_ret
                      exact ⟨by first | rfl | (simp [errW_none, errW_some] <;> rfl) | (simp only [← hji39, ← hji41]; first | rfl | (simp [errW_none, errW_some] <;> rfl)) | (simp [*, errW_none, errW_some] <;> rfl), by repeat (first | (with_reducible first | exact HB.out | apply below_alloc | apply pw_below_drewN | apply below_drew1) | exact HB.out)⟩
                    · rw [if_neg c42] at H
                      have c42b0 : ((ji41) == 0) = false := beq_eq_false_iff_ne.mpr c42
                      have c42b1 : ((ji41) != 0) = true := bne_iff_ne.mpr c42
                      obtain rfl := Option.some.inj H
                      go_wp2_with (first | ((with_reducible refine gate_callee (f := 20) rfl ?_); refine goesL_ (some 69) rfl rfl Try.func20 (by kernel_rfl) rfl #[.slice A0 l0.length c0] rfl (by (try simp only [List.map_toArray, List.map_cons, List.map_nil]); first | done | rfl | (simp only [List.length_drop, List.length_take]; rfl)) ?_; (with_reducible refine (stoaref09_Greatest.calls kj32 _ _ l0 t262 _ ?side1 ?side2 A37.out).mono ?_); (case side1 => repeat (first | exact (Kd.C_below HR0.out HB.out) | (with_reducible refine Kd.C_alloc ?_ _) | (with_reducible refine Kd.C_drewN ?_ _) | (with_reducible refine Kd.C_drew ?_))); (case side2 => exact HC0.out); rintro e w' ⟨rfl, ⟨nd, rfl⟩⟩; refine ⟨_, rfl, ?_⟩) | ((with_reducible refine gate_callee (f := 19) rfl ?_); refine goesL_ (some 72) rfl rfl Try.func19 (by kernel_rfl) rfl #[.slice A0 l0.length c0] rfl (by (try simp only [List.map_toArray, List.map_cons, List.map_nil]); first | done | rfl | (simp only [List.length_drop, List.length_take]; rfl)) ?_; (with_reducible refine (stoaref09_Least.calls kj32 _ _ l0 t263 _ ?side1 ?side2 A38.out).mono ?_); (case side1 => repeat (first | exact (Kd.C_below HR0.out (by repeat (first | (with_reducible first | exact HB.out | apply below_alloc | apply pw_below_drewN | apply below_drew1) | exact HB.out))) | (with_reducible refine Kd.C_alloc ?_ _) | (with_reducible refine Kd.C_drewN ?_ _) | (with_reducible refine Kd.C_drew ?_))); (case side2 => exact HC0.out); rintro e w' ⟨rfl, ⟨nd, rfl⟩⟩; refine ⟨_, rfl, ?_⟩))
                      go_ret
                      exact ⟨by first | rfl | (simp [errW_none, errW_some] <;> rfl) | (simp only [← hji39, ← hji41]; first | rfl | (simp [errW_none, errW_some] <;> rfl)) | (simp [*, errW_none, errW_some] <;> rfl), by repeat (first | (with_reducible first | exact HB.out | apply below_alloc | apply pw_below_drewN | apply below_drew1) | exact HB.out)⟩
                  · rw [if_neg c40] at H
                    exact absurd H (by simp)
  · replace c4 := Bool.eq_false_iff.mpr c4
    subst c4
    have H1 : (some false) = some r := by rw [if_neg (show ¬ (false = true) by decide)] at H; exact H
    clear H
    have H := H1
    clear H1
    obtain rfl := Option.some.inj H
    go_enter Try.func5, Try.ntmps5
    go_wp2_with (first | ((with_reducible refine gate_callee (f := 7) rfl ?_); refine goesL_ (some 12) rfl rfl Try.func7 (by kernel_rfl) rfl #[] rfl (by (try simp only [List.map_toArray, List.map_cons, List.map_nil]); first | done | rfl | (simp only [List.length_drop, List.length_take]; rfl)) ?_; (with_reducible refine (stoalaw09_alive.calls k  false _ A3.out).mono ?_); rintro e w43 ⟨rfl, hb⟩; refine ⟨_, rfl, ?_⟩; have n0_ := Aside0.mk (below_step (by repeat (first | (with_reducible first | exact HB.out | apply below_alloc | apply pw_below_drewN | apply below_drew1) | exact HB.out)) hb); clear HB; have HB := n0_; clear n0_; (try clear hb); (try clear hb2); (try clear hk); (try clear hi)))
    go_ret
    exact ⟨by first | rfl | (simp [errW_none, errW_some] <;> rfl) | (simp [*, errW_none, errW_some] <;> rfl), by repeat (first | (with_reducible first | exact HB.out | apply below_alloc | apply pw_below_drewN | apply below_drew1) | exact HB.out)⟩

/-- THE ONE PURE STATEMENT of stoalaw09_PackedBack: yours. -/
def stoalaw09_PackedBack.Pure : Prop := ∀ (l0 : List Int) (a1 : Int), l0.length ≤ maxLen → l0.length * 8 ≤ 140737488351232 → (∀ x ∈ l0, (Lit.int .i64 x).wf = true) → (Lit.int .i64 a1).wf = true → ∃ k, stoalaw09_PackedBack.f k l0 a1 = some true
theorem stoalaw09_PackedBack.walk (P : stoalaw09_PackedBack.Pure) (a0 : Option Addr) (len0 cap0 : Nat) (z0 : List Int) (a1 : Int) (w : World) (w0 : (a0 = none ∧ len0 = 0 ∧ cap0 = 0 ∧ z0 = []) ∨ ∃ x, a0 = some x ∧ len0 ≤ cap0 ∧ cap0 ≤ maxLen ∧ z0.length = cap0 ∧ (∀ i, i < z0.length → w.cell? (x.add i) = some (.int .i64 (z0.getD i 0))) ∧ ∀ n ∈ z0, (Lit.int .i64 n).wf = true) (y0 : len0 * 8 ≤ 140737488351232) (w1 : (Lit.int .i64 a1).wf = true) :
    Calls Try.prog 5 #[.slice a0 len0 cap0, .int .i64 a1] w fun e w' => e = .returned (.bool true) ∧ Below w.heap.size w w' := by
  obtain ⟨l0, rfl, hr0, hm0, hw0, hc0⟩ := ReadsInt.ofRowC w0
  obtain ⟨k, h⟩ := P l0 a1 hm0 y0 hw0 w1
  refine (stoalaw09_PackedBack.calls k _ _ l0 a1 true w (Kd.C_of_reads (d := (0 : Int)) (h1 := fun _ => rfl) hr0) hc0 h).mono ?_
  rintro e w' ⟨rfl, hd⟩
  exact ⟨rfl, hd⟩

end Go.Proofs.Ytimjmndogalcbaa.PPackedBack

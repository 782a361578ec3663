-- written by this session's own printing program (myprint.sh)
import Derived.Test.YtimjmndogalcbaaPPackedDecodesx0
import Derived.Test.YtimjmndogalcbaaPPackedDecodesx1
namespace Go.Proofs.Ytimjmndogalcbaa.PPackedDecodes
open Go.RowKit Go.Proofs.YtimjmndogalcbaaW.PrintWords Go.Proofs.YtimjmndogalcbaaW.PrintLast Go.Proofs.YtimjmndogalcbaaW.PrintMore
attribute [local go_sem] max2_int min2_int max_two min_two max_three min_three max_four min_four   -- for this text's walks alone
set_option linter.unusedVariables false
set_option linter.unusedSimpArgs false

/-! ### bits_Pack: function 27 -/
mutual
def bits_Pack.l0 : Nat → Int → List Int → Int → List Int → Int → Int → Option (List Int × Int)
 | 0, _, _, _, _, _, _ => none
 | k + 1, x0, x6, x7, x29, x30, x31 => if x31 < x30 then (if 0 ≤ x31 then (if x31 < (x29.length : Int) then (bits_Pack.l1 k x0 x6 x7 (rd x29 x31) x0 x29 x30 x31) else (none)) else (none)) else (some (x6, 0))
def bits_Pack.l1 : Nat → Int → List Int → Int → Int → Int → List Int → Int → Int → Option (List Int × Int)
 | 0, _, _, _, _, _, _, _, _ => none
 | k + 1, x0, x6, x7, x9, x10, x29, x30, x31 => if x10 > 0 then (if 0 ≤ (x7 / 8) then (if (x7 / 8) < (x6.length : Int) then (if 0 ≤ (IntKind.u64.wrap (mn (wrap64 (8 - (Go.bits .and .i64 x7 7))) x10)) then (if 0 ≤ (IntKind.u64.wrap (Go.bits .and .i64 x7 7)) then (bits_Pack.l1 k x0 (x6.set ((x7 / 8) : Int).toNat (Go.bits .or .u8 (rd x6 (x7 / 8)) (shl .u8 ((Go.bits .and .u64 x9 (IntKind.u64.wrap ((shl .u64 1 (IntKind.u64.wrap (mn (wrap64 (8 - (Go.bits .and .i64 x7 7))) x10))) - 1))) % 256) (IntKind.u64.wrap (Go.bits .and .i64 x7 7))))) (wrap64 (x7 + (mn (wrap64 (8 - (Go.bits .and .i64 x7 7))) x10))) (shr .u64 x9 (IntKind.u64.wrap (mn (wrap64 (8 - (Go.bits .and .i64 x7 7))) x10))) (wrap64 (x10 - (mn (wrap64 (8 - (Go.bits .and .i64 x7 7))) x10))) x29 x30 x31) else (none)) else (none)) else (none)) else (none)) else (bits_Pack.l0 k x0 x6 x7 x29 x30 (wrap64 (x31 + 1)))
end
def bits_Pack.f (k : Nat) (a0 : Int) (l1 : List Int) : Option (List Int × Int) := (bits_badWidth.f a0).bind fun t111 => (if t111 = true then (some (([] : List Int), 1)) else (if (l1.length : Int) > 4096 then (some (([] : List Int), 4)) else ((bits_Width.f k l1).bind fun t112 => (if t112 > a0 then (some (([] : List Int), 10)) else ((bits_need.f a0 (l1.length : Int)).bind fun t113 => (if 0 ≤ t113 then (if (t113 : Int).toNat ≤ 281474976710656 then (bits_Pack.l0 k a0 (List.replicate (t113 : Int).toNat 0) 0 l1 (l1.length : Int) 0) else (none)) else (none)))))))
theorem bits_Pack.mono_l : ∀ k, (∀ y0 y1 y2 y3 y4 y5, LeO (bits_Pack.l0 k y0 y1 y2 y3 y4 y5) (bits_Pack.l0 (k + 1) y0 y1 y2 y3 y4 y5)) ∧ (∀ y0 y1 y2 y3 y4 y5 y6 y7, LeO (bits_Pack.l1 k y0 y1 y2 y3 y4 y5 y6 y7) (bits_Pack.l1 (k + 1) y0 y1 y2 y3 y4 y5 y6 y7))
 | 0 => ⟨fun _ _ _ _ _ _ r h => by simp [bits_Pack.l0] at h, fun _ _ _ _ _ _ _ _ r h => by simp [bits_Pack.l1] at h⟩
 | k + 1 => by
  obtain ⟨ih0, ih1⟩ := bits_Pack.mono_l k
  refine ⟨?_, ?_⟩
  ·intro y0 y1 y2 y3 y4 y5
   unfold bits_Pack.l0
   repeat' first
   | (with_reducible exact ih0 _ _ _ _ _ _)
   | (with_reducible exact ih1 _ _ _ _ _ _ _ _)
   | (with_reducible exact bits_Width.mono _ _)
   | (with_reducible exact LeO.refl _)
   | (with_reducible exact LeO.none _)
   | (with_reducible refine LeO.ite ?_ ?_)
   | (with_reducible refine LeO.bind ?_ (fun _ => ?_))
   | exact ih0 _ _ _ _ _ _
   | exact ih1 _ _ _ _ _ _ _ _
   | exact bits_Width.mono _ _
   | exact LeO.none _
   | refine LeO.ite ?_ ?_
   | refine LeO.bind ?_ (fun _ => ?_)
  ·intro y0 y1 y2 y3 y4 y5 y6 y7
   unfold bits_Pack.l1
   repeat' first
   | (with_reducible exact ih0 _ _ _ _ _ _)
   | (with_reducible exact ih1 _ _ _ _ _ _ _ _)
   | (with_reducible exact bits_Width.mono _ _)
   | (with_reducible exact LeO.refl _)
   | (with_reducible exact LeO.none _)
   | (with_reducible refine LeO.ite ?_ ?_)
   | (with_reducible refine LeO.bind ?_ (fun _ => ?_))
   | exact ih0 _ _ _ _ _ _
   | exact ih1 _ _ _ _ _ _ _ _
   | exact bits_Width.mono _ _
   | exact LeO.none _
   | refine LeO.ite ?_ ?_
   | refine LeO.bind ?_ (fun _ => ?_)
theorem bits_Pack.mono : ∀ a0 a1 k, LeO (bits_Pack.f k a0 a1) (bits_Pack.f (k + 1) a0 a1) := by
 intro a0 a1 k
 obtain ⟨ih0, ih1⟩ := bits_Pack.mono_l k
 unfold bits_Pack.f
 repeat' first
   | (with_reducible exact ih0 _ _ _ _ _ _)
   | (with_reducible exact ih1 _ _ _ _ _ _ _ _)
   | (with_reducible exact bits_Width.mono _ _)
   | (with_reducible exact LeO.refl _)
   | (with_reducible exact LeO.none _)
   | (with_reducible refine LeO.ite ?_ ?_)
   | (with_reducible refine LeO.bind ?_ (fun _ => ?_))
   | exact ih0 _ _ _ _ _ _
   | exact ih1 _ _ _ _ _ _ _ _
   | exact bits_Width.mono _ _
   | exact LeO.none _
   | refine LeO.ite ?_ ?_
   | refine LeO.bind ?_ (fun _ => ?_)
set_option maxHeartbeats 8000000 in
set_option maxRecDepth 100000 in
theorem bits_Pack.calls (k : Nat) (a0 : Int) (A1 : Option Addr) (c1 : Nat) (l1 : List Int) (r1 : List Int) (r2 : Int) (w : World) (hr1 : Kd.C (Kd.int .u64) w A1 l1.length l1) (hc1 : l1.length ≤ c1) (h : bits_Pack.f k a0 l1 = some (r1, r2)) :
  Calls Try.prog 27 #[.int .i64 a0, .slice A1 l1.length c1] w fun e w' => ∃ v0_ : Value, e = .returned (.tuple #[v0_, .int .i64 r2]) ∧ Kd.R (Kd.int .u8) 5 w' w.heap.size (fun _ => True) v0_ r1 ∧ Below w.heap.size w w' := by
 have HR1 := Aside0.mk hr1
 have HC1 := Aside0.mk hc1
 clear hr1 hc1
 have HB := Aside0.mk (Below.refl w.heap.size w)
 have H : ((bits_badWidth.f a0).bind fun t111 => (if t111 = true then (some (([] : List Int), 1)) else (if (l1.length : Int) > 4096 then (some (([] : List Int), 4)) else ((bits_Width.f k l1).bind fun t112 => (if t112 > a0 then (some (([] : List Int), 10)) else ((bits_need.f a0 (l1.length : Int)).bind fun t113 => (if 0 ≤ t113 then (if (t113 : Int).toNat ≤ 281474976710656 then (bits_Pack.l0 k a0 (List.replicate (t113 : Int).toNat 0) 0 l1 (l1.length : Int) 0) else (none)) else (none)))))))) = some (r1, r2) := h
 clear h
 replace H := Option.bind_eq_some_iff.mp H
 obtain ⟨t111, A30, H⟩ := H
 replace H : (if t111 = true then (some (([] : List Int), 1)) else (if (l1.length : Int) > 4096 then (some (([] : List Int), 4)) else ((bits_Width.f k l1).bind fun t112 => (if t112 > a0 then (some (([] : List Int), 10)) else ((bits_need.f a0 (l1.length : Int)).bind fun t113 => (if 0 ≤ t113 then (if (t113 : Int).toNat ≤ 281474976710656 then (bits_Pack.l0 k a0 (List.replicate (t113 : Int).toNat 0) 0 l1 (l1.length : Int) 0) else (none)) else (none))))))) = some (r1, r2) := H
 have A3 := Aside0.mk A30
 clear A30
 by_cases c4 : t111 = true
 ·subst c4
  have H1 : (some (([] : List Int), 1)) = some (r1, r2) := by rw [if_pos rfl] at H; exact H
  clear H
  have H := H1
  clear H1
  simp only [Option.some.injEq, Prod.mk.injEq] at H
  obtain ⟨rfl, rfl⟩ := H
  go_enter Try.func27, Try.ntmps27
  go_wp2_with (first | ((with_reducible refine gate_callee (f := 45) rfl ?_); refine goesL_ (some 14) rfl rfl Try.func45 (by kernel_rfl) rfl #[.int .i64 a0] rfl (by (try simp only [List.map_toArray, List.map_cons, List.map_nil]); first | done | rfl | (simp only [List.length_drop, List.length_take]; rfl)) ?_; (with_reducible refine (bits_badWidth.calls a0 true _ A3.out).mono ?_); rintro e w' ⟨rfl, ⟨nd, rfl⟩⟩; refine ⟨_, rfl, ?_⟩))
  go_ret2
  exact ⟨_, by first | rfl | (simp [errW_none, errW_some] <;> rfl) | (simp [*, errW_none, errW_some] <;> rfl), by first | exact Kd.R_nil _ _ _ _ _ | exact Kd.N_nil _ _ _ _ _ | exact Kd.V_nil _ _ _ _ _ | exact Kd.Q_nil _ _ _ _ _ | exact Kd.S_nil _ _ _ _ _, by repeat (first | (with_reducible first | exact HB.out | apply below_alloc | apply pw_below_drewN | apply below_drew1) | exact HB.out)⟩
 ·replace c4 := Bool.eq_false_iff.mpr c4
  subst c4
  have H1 : (if (l1.length : Int) > 4096 then (some (([] : List Int), 4)) else ((bits_Width.f k l1).bind fun t112 => (if t112 > a0 then (some (([] : List Int), 10)) else ((bits_need.f a0 (l1.length : Int)).bind fun t113 => (if 0 ≤ t113 then (if (t113 : Int).toNat ≤ 281474976710656 then (bits_Pack.l0 k a0 (List.replicate (t113 : Int).toNat 0) 0 l1 (l1.length : Int) 0) else (none)) else (none)))))) = some (r1, r2) := by rw [if_neg (show ¬ (false = true) by decide)] at H; exact H
  clear H
  have H := H1
  clear H1
  by_cases c5 : (l1.length : Int) > 4096
  ·rw [if_pos c5] at H
   have c5b0 : decide (4096 < (l1.length : Int)) = true := decide_eq_true c5
   have c5b1 : decide (4096 < l1.length) = true := decide_eq_true (by omega)
   clear c5
   simp only [Option.some.injEq, Prod.mk.injEq] at H
   obtain ⟨rfl, rfl⟩ := H
   go_enter Try.func27, Try.ntmps27
   go_wp2_with (first | ((with_reducible refine gate_callee (f := 45) rfl ?_); refine goesL_ (some 14) rfl rfl Try.func45 (by kernel_rfl) rfl #[.int .i64 a0] rfl (by (try simp only [List.map_toArray, List.map_cons, List.map_nil]); first | done | rfl | (simp only [List.length_drop, List.length_take]; rfl)) ?_; (with_reducible refine (bits_badWidth.calls a0 false _ A3.out).mono ?_); rintro e w' ⟨rfl, ⟨nd, rfl⟩⟩; refine ⟨_, rfl, ?_⟩))
   go_ret2
   exact ⟨_, by first | rfl | (simp [errW_none, errW_some] <;> rfl) | (simp [*, errW_none, errW_some] <;> rfl), by first | exact Kd.R_nil _ _ _ _ _ | exact Kd.N_nil _ _ _ _ _ | exact Kd.V_nil _ _ _ _ _ | exact Kd.Q_nil _ _ _ _ _ | exact Kd.S_nil _ _ _ _ _, by repeat (first | (with_reducible first | exact HB.out | apply below_alloc | apply pw_below_drewN | apply below_drew1) | exact HB.out)⟩
  ·rw [if_neg c5] at H
   have c5b0 : decide (4096 < (l1.length : Int)) = false := decide_eq_false c5
   have c5b1 : decide (4096 < l1.length) = false := decide_eq_false (by omega)
   clear c5
   replace H := Option.bind_eq_some_iff.mp H
   obtain ⟨t112, A60, H⟩ := H
   replace H : (if t112 > a0 then (some (([] : List Int), 10)) else ((bits_need.f a0 (l1.length : Int)).bind fun t113 => (if 0 ≤ t113 then (if (t113 : Int).toNat ≤ 281474976710656 then (bits_Pack.l0 k a0 (List.replicate (t113 : Int).toNat 0) 0 l1 (l1.length : Int) 0) else (none)) else (none)))) = some (r1, r2) := H
   have A6 := Aside0.mk A60
   clear A60
   by_cases c7 : t112 > a0
   ·rw [if_pos c7] at H
    have c7b0 : decide (a0 < t112) = true := decide_eq_true c7
    clear c7
    simp only [Option.some.injEq, Prod.mk.injEq] at H
    obtain ⟨rfl, rfl⟩ := H
    go_enter Try.func27, Try.ntmps27
    go_wp2_with (first | ((with_reducible refine gate_callee (f := 45) rfl ?_); refine goesL_ (some 14) rfl rfl Try.func45 (by kernel_rfl) rfl #[.int .i64 a0] rfl (by (try simp only [List.map_toArray, List.map_cons, List.map_nil]); first | done | rfl | (simp only [List.length_drop, List.length_take]; rfl)) ?_; (with_reducible refine (bits_badWidth.calls a0 false _ A3.out).mono ?_); rintro e w' ⟨rfl, ⟨nd, rfl⟩⟩; refine ⟨_, rfl, ?_⟩) | ((with_reducible refine gate_callee (f := 26) rfl ?_); refine goesL_ (some 21) rfl rfl Try.func26 (by kernel_rfl) rfl #[.slice A1 l1.length c1] rfl (by (try simp only [List.map_toArray, List.map_cons, List.map_nil]); first | done | rfl | (simp only [List.length_drop, List.length_take]; rfl)) ?_; (with_reducible refine (bits_Width.calls k _ _ l1 t112 _ ?side1 ?side2 A6.out).mono ?_); (case side1 => repeat (first | exact HR1.out | (with_reducible refine Kd.C_alloc ?_ _) | (with_reducible refine Kd.C_drewN ?_ _) | (with_reducible refine Kd.C_drew ?_))); (case side2 => exact HC1.out); rintro e w' ⟨rfl, ⟨nd, rfl⟩⟩; refine ⟨_, rfl, ?_⟩))
    go_ret2
    exact ⟨_, by first | rfl | (simp [errW_none, errW_some] <;> rfl) | (simp [*, errW_none, errW_some] <;> rfl), by first | exact Kd.R_nil _ _ _ _ _ | exact Kd.N_nil _ _ _ _ _ | exact Kd.V_nil _ _ _ _ _ | exact Kd.Q_nil _ _ _ _ _ | exact Kd.S_nil _ _ _ _ _, by repeat (first | (with_reducible first | exact HB.out | apply below_alloc | apply pw_below_drewN | apply below_drew1) | exact HB.out)⟩
   ·rw [if_neg c7] at H
    have c7b0 : decide (a0 < t112) = false := decide_eq_false c7
    clear c7
    replace H := Option.bind_eq_some_iff.mp H
    obtain ⟨t113, A80, H⟩ := H
    replace H : (if 0 ≤ t113 then (if (t113 : Int).toNat ≤ 281474976710656 then (bits_Pack.l0 k a0 (List.replicate (t113 : Int).toNat 0) 0 l1 (l1.length : Int) 0) else (none)) else (none)) = some (r1, r2) := H
    have A8 := Aside0.mk A80
    clear A80
    by_cases c9 : 0 ≤ t113
    ·rw [if_pos c9] at H
     have c9b0 := eq_true c9
     have c9b1 : decide (0 ≤ t113) = true := decide_eq_true c9
     clear c9
     by_cases c10 : (t113 : Int).toNat ≤ 281474976710656
     ·rw [if_pos c10] at H
      have c10b0 := eq_true c10
      have c10b1 : decide ((t113 : Int).toNat ≤ 281474976710656) = true := decide_eq_true c10
      clear c10
      obtain ⟨y114, hy114⟩ : ∃ y_ : List Int, y_ = (List.replicate (t113 : Int).toNat 0) := ⟨_, rfl⟩
      replace H : (bits_Pack.l0 k a0 y114 0 l1 (l1.length : Int) 0) = some (r1, r2) := by first | (rw [hy114]; with_reducible exact H) | (have H2_ := (Option.bind_some _ _).symm.trans H; rw [hy114]; with_reducible exact H2_) | (have H2_ := (Option.bind_some _ _).symm.trans H; with_reducible exact H2_) | with_reducible exact H | (rw [hy114]; exact H) | exact H
      have Ny114 := Aside0.mk hy114
      clear hy114
      have H' := Aside0.mk H
      clear H
      go_enter Try.func27, Try.ntmps27
      go_wp2_with (first | ((with_reducible refine gate_callee (f := 45) rfl ?_); refine goesL_ (some 14) rfl rfl Try.func45 (by kernel_rfl) rfl #[.int .i64 a0] rfl (by (try simp only [List.map_toArray, List.map_cons, List.map_nil]); first | done | rfl | (simp only [List.length_drop, List.length_take]; rfl)) ?_; (with_reducible refine (bits_badWidth.calls a0 false _ A3.out).mono ?_); rintro e w' ⟨rfl, ⟨nd, rfl⟩⟩; refine ⟨_, rfl, ?_⟩) | ((with_reducible refine gate_callee (f := 26) rfl ?_); refine goesL_ (some 21) rfl rfl Try.func26 (by kernel_rfl) rfl #[.slice A1 l1.length c1] rfl (by (try simp only [List.map_toArray, List.map_cons, List.map_nil]); first | done | rfl | (simp only [List.length_drop, List.length_take]; rfl)) ?_; (with_reducible refine (bits_Width.calls k _ _ l1 t112 _ ?side1 ?side2 A6.out).mono ?_); (case side1 => repeat (first | exact HR1.out | (with_reducible refine Kd.C_alloc ?_ _) | (with_reducible refine Kd.C_drewN ?_ _) | (with_reducible refine Kd.C_drew ?_))); (case side2 => exact HC1.out); rintro e w' ⟨rfl, ⟨nd, rfl⟩⟩; refine ⟨_, rfl, ?_⟩) | ((with_reducible refine gate_callee (f := 46) rfl ?_); refine goesL_ (some 27) rfl rfl Try.func46 (by kernel_rfl) rfl #[.int .i64 a0, .int .i64 (l1.length : Int)] rfl (by (try simp only [List.map_toArray, List.map_cons, List.map_nil]); first | done | rfl | (simp only [List.length_drop, List.length_take]; rfl)) ?_; (with_reducible refine (bits_need.calls a0 (l1.length : Int) t113 _ A8.out).mono ?_); rintro e w' ⟨rfl, ⟨nd, rfl⟩⟩; refine ⟨_, rfl, ?_⟩) | ((with_reducible refine gate_dst (N := 28) rfl ?_); refine Kd.R_make (Kd.int .u8) _ 5 rfl (N := 28) rfl 25 _ _ rfl t113 rfl rfl Try.underlying25 (.int .u8 0) 1 info5 rfl (by decide) (by omega) 0 (ok := fun _ => True) (okp := fun _ => True) rfl (fun _ hk => hk) trivial (of_decide_eq_true (by first | (with_reducible assumption) | assumption)) (Nat.le_trans (Nat.mul_le_mul_right _ (of_decide_eq_true (by first | (with_reducible assumption) | assumption) : t113.toNat ≤ 281474976710656)) (by omega)) (Below.refl _ _) (Nat.le_refl _) ?_; intro v115 w11 ho12 hb hg_ hnew_; clear hg_ hnew_; (first | rw [← Ny114.out] at ho12 | (simp only [Int.reduceToNat] at ho12; rw [← Ny114.out] at ho12)); have n0_ := Aside0.mk (Kd.R_lower ho12 (below_size (by repeat (first | (with_reducible first | exact HB.out | apply below_alloc | apply pw_below_drewN | apply below_drew1) | exact HB.out)))); have n1_ := Aside0.mk (below_step (by repeat (first | (with_reducible first | exact HB.out | apply below_alloc | apply pw_below_drewN | apply below_drew1) | exact HB.out)) hb); clear HB; have HO116 := n0_; have HB := n1_; clear n0_ n1_; clear hb ho12))
      go_loopg [7, 31] k (fun kq v7 v31 w' => ∃ (x6_1 : List Int) (x7_1 : Int) (x31_1 : Int), v7 = .int .i64 x7_1 ∧ v31 = .int .i64 x31_1 ∧ Aside0 (bits_Pack.l0 kq a0 x6_1 x7_1 l1 (l1.length : Int) x31_1 = some (r1, r2)) ∧ Aside0 (kq ≤ k) ∧ Aside0 (Kd.R (Kd.int .u8) 5 w' w.heap.size (fun _ => True) v115 x6_1) ∧ Aside0 (Below w.heap.size w w'))
      case atStart => exact ⟨(y114), (0), (0), (by first | rfl | (simp; done) | (simp [*]; done)), (by first | rfl | (simp; done) | (simp [*]; done)), H', ⟨Nat.le_refl _⟩, ⟨by (with_reducible repeat (first | apply Kd.R_alloc | apply Kd.R_drewN | apply Kd.R_drew)); exact HO116.out⟩, ⟨by repeat (first | (with_reducible first | exact HB.out | apply below_alloc | apply pw_below_drewN | apply below_drew1) | exact HB.out)⟩⟩
      case round =>
       clear H'
       try clear c1
       try clear c2
       try clear p2
       try clear c4
       try clear c5
       try clear c5b0
       try clear c5b1
       try clear c7
       try clear c7b0
       try clear c9
       try clear c9b0
       try clear c9b1
       try clear c10
       try clear c10b0
       try clear c10b1
       obtain ⟨x6_1, x7_1, x31_1, rfl, rfl, HA, HK1, HO_6, HB⟩ := hrel
       cases gk with
       | zero => exact absurd HA.out (by simp [bits_Pack.l0])
       | succ k1 =>
        have H := HA.out
        clear HA
        simp only [bits_Pack.l0] at H
        by_cases c13 : x31_1 < (l1.length : Int)
        ·rw [if_pos c13] at H
         have c13b0 : decide (x31_1 < (l1.length : Int)) = true := decide_eq_true c13
         clear c13
         by_cases c14 : 0 ≤ x31_1
         ·rw [if_pos c14] at H
          have c14b0 : decide (0 ≤ x31_1) = true := decide_eq_true c14
          clear c14
          by_cases c15 : x31_1 < (l1.length : Int)
          ·rw [if_pos c15] at H
           have c15b0 : decide (x31_1 < (l1.length : Int)) = true := decide_eq_true c15
           clear c15
           have H' := Aside0.mk H
           clear H
           have p117 : 0 ≤ (x31_1 : Int) := of_decide_eq_true (by first | (with_reducible assumption) | assumption)
           have q117 : x31_1 < (l1.length : Int) := of_decide_eq_true (by first | (with_reducible assumption) | assumption)
           obtain ⟨ad117, e117, hx117_0⟩ := Kd.at_int HR1.out x31_1 p117 q117
           cases e117
           replace hx117_0 := (HB.out.cell (World.block_lt_of_cell? w _ hx117_0)).trans hx117_0
           replace p117 := eq_true p117
           replace q117 := eq_true q117
           go_wp2
           go_loopg [7, 9, 10] k1 (fun kq v7 v9 v10 w' => ∃ (x6_2 : List Int) (x7_2 : Int) (x9_2 : Int) (x10_2 : Int), v7 = .int .i64 x7_2 ∧ v9 = .int .u64 x9_2 ∧ v10 = .int .i64 x10_2 ∧ Aside0 (bits_Pack.l1 kq a0 x6_2 x7_2 x9_2 x10_2 l1 (l1.length : Int) x31_1 = some (r1, r2)) ∧ Aside0 (kq ≤ k1) ∧ Aside0 (Kd.R (Kd.int .u8) 5 w' w.heap.size (fun _ => True) v115 x6_2) ∧ Aside0 (Below w.heap.size w w'))
           case atStart => exact ⟨(x6_1), (x7_1), (rd l1 x31_1), (a0), (by first | rfl | (simp; done) | (simp [*]; done)), (by first | rfl | (simp; done) | (simp [*]; done)), (by first | rfl | (simp; done) | (simp [*]; done)), H', ⟨Nat.le_refl _⟩, ⟨by (with_reducible repeat (first | apply Kd.R_alloc | apply Kd.R_drewN | apply Kd.R_drew)); exact HO_6.out⟩, ⟨by repeat (first | (with_reducible first | exact HB.out | apply below_alloc | apply pw_below_drewN | apply below_drew1) | exact HB.out)⟩⟩
           case round =>
            clear H'
            try clear c1
            try clear p1
            try clear q1
            try clear hx1
            try clear c2
            try clear p2
            try clear c4
            try clear c5
            try clear c5b0
            try clear c5b1
            try clear c7
            try clear c7b0
            try clear c9
            try clear c9b0
            try clear c9b1
            try clear c10
            try clear c10b0
            try clear c10b1
            try clear p11
            try clear q11
            try clear hx11
            try clear c13
            try clear c13b0
            try clear c14
            try clear c14b0
            try clear c15
            try clear c15b0
            try clear hx117_0
            try clear p117
            try clear p2
            try clear q117
            obtain ⟨x6_2, x7_2, x9_2, x10_2, rfl, rfl, rfl, HA, HK2, HO_6, HB⟩ := hrel
            cases gk with
            | zero => exact absurd HA.out (by simp [bits_Pack.l1])
            | succ k2 =>
             have H := HA.out
             clear HA
             simp only [bits_Pack.l1] at H
             by_cases c16 : x10_2 > 0
             ·rw [if_pos c16] at H
              have c16b0 : decide (0 < x10_2) = true := decide_eq_true c16
              clear c16
              obtain ⟨ji17, hji17⟩ : ∃ j_ : Int, (mn (wrap64 (8 - (Go.bits .and .i64 x7_2 7))) x10_2) = j_ := ⟨_, rfl⟩
              replace H : (if 0 ≤ (x7_2 / 8) then (if (x7_2 / 8) < (x6_2.length : Int) then (if 0 ≤ (IntKind.u64.wrap (ji17)) then (if 0 ≤ (IntKind.u64.wrap (Go.bits .and .i64 x7_2 7)) then (bits_Pack.l1 k2 a0 (x6_2.set ((x7_2 / 8) : Int).toNat (Go.bits .or .u8 (rd x6_2 (x7_2 / 8)) (shl .u8 ((Go.bits .and .u64 x9_2 (IntKind.u64.wrap ((shl .u64 1 (IntKind.u64.wrap (ji17))) - 1))) % 256) (IntKind.u64.wrap (Go.bits .and .i64 x7_2 7))))) (wrap64 (x7_2 + (ji17))) (shr .u64 x9_2 (IntKind.u64.wrap (ji17))) (wrap64 (x10_2 - (ji17))) l1 (l1.length : Int) x31_1) else (none)) else (none)) else (none)) else (none)) = some (r1, r2) := by first | (rw [hji17] at H; exact H) | (simp only [hji17] at H ⊢; exact H)
              have hji17_ : (if x10_2 < (wrap64 (8 - (Go.bits .and .i64 x7_2 7))) then x10_2 else (wrap64 (8 - (Go.bits .and .i64 x7_2 7)))) = ji17 := hji17
              obtain ⟨ji18, hji18⟩ : ∃ j_ : Int, (x7_2 / 8) = j_ := ⟨_, rfl⟩
              replace H : (if 0 ≤ (ji18) then (if (ji18) < (x6_2.length : Int) then (if 0 ≤ (IntKind.u64.wrap (ji17)) then (if 0 ≤ (IntKind.u64.wrap (Go.bits .and .i64 x7_2 7)) then (bits_Pack.l1 k2 a0 (x6_2.set ((ji18) : Int).toNat (Go.bits .or .u8 (rd x6_2 (ji18)) (shl .u8 ((Go.bits .and .u64 x9_2 (IntKind.u64.wrap ((shl .u64 1 (IntKind.u64.wrap (ji17))) - 1))) % 256) (IntKind.u64.wrap (Go.bits .and .i64 x7_2 7))))) (wrap64 (x7_2 + (ji17))) (shr .u64 x9_2 (IntKind.u64.wrap (ji17))) (wrap64 (x10_2 - (ji17))) l1 (l1.length : Int) x31_1) else (none)) else (none)) else (none)) else (none)) = some (r1, r2) := by first | (rw [hji18] at H; exact H) | (simp only [hji18] at H ⊢; exact H)
              by_cases c19 : 0 ≤ (ji18)
              ·rw [if_pos c19] at H
               have c19b0 : decide (0 ≤ (ji18)) = true := decide_eq_true c19
               clear c19
               by_cases c20 : (ji18) < (x6_2.length : Int)
               ·rw [if_pos c20] at H
                have c20b0 : decide ((ji18) < (x6_2.length : Int)) = true := decide_eq_true c20
                clear c20
                obtain ⟨ji21, hji21⟩ : ∃ j_ : Int, (IntKind.u64.wrap (ji17)) = j_ := ⟨_, rfl⟩
                replace H : (if 0 ≤ (ji21) then (if 0 ≤ (IntKind.u64.wrap (Go.bits .and .i64 x7_2 7)) then (bits_Pack.l1 k2 a0 (x6_2.set ((ji18) : Int).toNat (Go.bits .or .u8 (rd x6_2 (ji18)) (shl .u8 ((Go.bits .and .u64 x9_2 (IntKind.u64.wrap ((shl .u64 1 (ji21)) - 1))) % 256) (IntKind.u64.wrap (Go.bits .and .i64 x7_2 7))))) (wrap64 (x7_2 + (ji17))) (shr .u64 x9_2 (ji21)) (wrap64 (x10_2 - (ji17))) l1 (l1.length : Int) x31_1) else (none)) else (none)) = some (r1, r2) := by first | (rw [hji21] at H; exact H) | (simp only [hji21] at H ⊢; exact H)
                by_cases c22 : 0 ≤ (ji21)
                ·rw [if_pos c22] at H
                 have c22b0 := eq_true c22
                 have c22b1 : decide (0 ≤ (ji21)) = true := decide_eq_true c22
                 clear c22
                 obtain ⟨ji23, hji23⟩ : ∃ j_ : Int, (shl .u64 1 (ji21)) = j_ := ⟨_, rfl⟩
                 replace H : (if 0 ≤ (IntKind.u64.wrap (Go.bits .and .i64 x7_2 7)) then (bits_Pack.l1 k2 a0 (x6_2.set ((ji18) : Int).toNat (Go.bits .or .u8 (rd x6_2 (ji18)) (shl .u8 ((Go.bits .and .u64 x9_2 (IntKind.u64.wrap ((ji23) - 1))) % 256) (IntKind.u64.wrap (Go.bits .and .i64 x7_2 7))))) (wrap64 (x7_2 + (ji17))) (shr .u64 x9_2 (ji21)) (wrap64 (x10_2 - (ji17))) l1 (l1.length : Int) x31_1) else (none)) = some (r1, r2) := by first | (rw [hji23] at H; exact H) | (simp only [hji23] at H ⊢; exact H)
                 have hji23_ : (IntKind.u64.wrap (1 * 2 ^ min (ji21).toNat 64)) = ji23 := hji23
                 have hji23z : (ji21) ≤ 64 → (IntKind.u64.wrap (1 * 2 ^ (ji21).toNat)) = ji23 := shl_small hji23
                 have hji23u : (IntKind.u64.wrap (2 ^ min (ji21).toNat 64)) = ji23 := by have h_ := hji23_; rw [Int.one_mul] at h_; exact h_
                 have hji23v : (ji21) ≤ 64 → (IntKind.u64.wrap (2 ^ (ji21).toNat)) = ji23 := fun hle_ => by have h_ := hji23z hle_; rw [Int.one_mul] at h_; exact h_
                 obtain ⟨ji24, hji24⟩ : ∃ j_ : Int, (IntKind.u64.wrap (Go.bits .and .i64 x7_2 7)) = j_ := ⟨_, rfl⟩
                 replace H : (if 0 ≤ (ji24) then (bits_Pack.l1 k2 a0 (x6_2.set ((ji18) : Int).toNat (Go.bits .or .u8 (rd x6_2 (ji18)) (shl .u8 ((Go.bits .and .u64 x9_2 (IntKind.u64.wrap ((ji23) - 1))) % 256) (ji24)))) (wrap64 (x7_2 + (ji17))) (shr .u64 x9_2 (ji21)) (wrap64 (x10_2 - (ji17))) l1 (l1.length : Int) x31_1) else (none)) = some (r1, r2) := by first | (rw [hji24] at H; exact H) | (simp only [hji24] at H ⊢; exact H)
                 by_cases c25 : 0 ≤ (ji24)
                 ·rw [if_pos c25] at H
                  have c25b0 := eq_true c25
                  have c25b1 : decide (0 ≤ (ji24)) = true := decide_eq_true c25
                  clear c25
                  obtain ⟨ji26, hji26⟩ : ∃ j_ : Int, (shl .u8 ((Go.bits .and .u64 x9_2 (IntKind.u64.wrap ((ji23) - 1))) % 256) (ji24)) = j_ := ⟨_, rfl⟩
                  replace H : (bits_Pack.l1 k2 a0 (x6_2.set ((ji18) : Int).toNat (Go.bits .or .u8 (rd x6_2 (ji18)) (ji26))) (wrap64 (x7_2 + (ji17))) (shr .u64 x9_2 (ji21)) (wrap64 (x10_2 - (ji17))) l1 (l1.length : Int) x31_1) = some (r1, r2) := by first | (rw [hji26] at H; exact H) | (simp only [hji26] at H ⊢; exact H)
                  have hji26_ : (IntKind.u8.wrap (((Go.bits .and .u64 x9_2 (IntKind.u64.wrap ((ji23) - 1))) % 256) * 2 ^ min (ji24).toNat 8)) = ji26 := hji26
                  have hji26z : (ji24) ≤ 8 → (IntKind.u8.wrap (((Go.bits .and .u64 x9_2 (IntKind.u64.wrap ((ji23) - 1))) % 256) * 2 ^ (ji24).toNat)) = ji26 := shl_small hji26
                  obtain ⟨y119, hy119⟩ : ∃ y_ : List Int, y_ = (x6_2.set ((ji18) : Int).toNat (Go.bits .or .u8 (rd x6_2 (ji18)) (ji26))) := ⟨_, rfl⟩
                  replace H : (bits_Pack.l1 k2 a0 y119 (wrap64 (x7_2 + (ji17))) (shr .u64 x9_2 (ji21)) (wrap64 (x10_2 - (ji17))) l1 (l1.length : Int) x31_1) = some (r1, r2) := by first | (rw [hy119]; with_reducible exact H) | (have H2_ := (Option.bind_some _ _).symm.trans H; rw [hy119]; with_reducible exact H2_) | (have H2_ := (Option.bind_some _ _).symm.trans H; with_reducible exact H2_) | with_reducible exact H | (rw [hy119]; exact H) | exact H
                  have Ny119 := Aside0.mk hy119
                  clear hy119
                  have c28b0 := eq_true (of_decide_eq_true (by first | (with_reducible assumption) | assumption) : 0 ≤ (ji21))
                  obtain ⟨ji29, hji29⟩ : ∃ j_ : Int, (shr .u64 x9_2 (ji21)) = j_ := ⟨_, rfl⟩
                  replace H : (bits_Pack.l1 k2 a0 y119 (wrap64 (x7_2 + (ji17))) ji29 (wrap64 (x10_2 - (ji17))) l1 (l1.length : Int) x31_1) = some (r1, r2) := by first | (rw [hji29] at H; exact H) | (simp only [hji29] at H ⊢; exact H)
                  have hji29_ : (x9_2 / 2 ^ min (ji21).toNat 64) = ji29 := hji29
                  have hji29z : (ji21) ≤ 64 → (x9_2 / 2 ^ (ji21).toNat) = ji29 := shr_small hji29
                  have H' := Aside0.mk H
                  clear H
                  obtain ⟨Ao30, co30, eo30⟩ := Kd.R_slice HO_6.out
                  subst eo30
                  have p118 : 0 ≤ ((ji18) : Int) := of_decide_eq_true (by first | (with_reducible assumption) | assumption)
                  have q118 : (ji18) < (x6_2.length : Int) := of_decide_eq_true (by first | (with_reducible assumption) | assumption)
                  obtain ⟨ad118, e118, hx118_0⟩ := Kd.at_int (Kd.R_reads' HO_6.out).2.2 (ji18) p118 q118
                  cases e118
                  replace p118 := eq_true p118
                  replace q118 := eq_true q118
                  have p27 : 0 ≤ ((ji18) : Int) := of_decide_eq_true (by first | (with_reducible assumption) | assumption)
                  have q27 : ((ji18) : Int) < ((x6_2.length : Int) : Int) := of_decide_eq_true (by first | (with_reducible assumption) | assumption)
                  obtain ⟨go27, co27, eo27, gb27, gl27, cl27, HG27⟩ := Kd.R_form HO_6.out (by omega)
                  (first | cases eo27 | (injection eo27 with ea_ en_ ec_; (first | subst ea_ | (injection ea_ with ea_; subst ea_)); subst ec_; clear en_))
                  have GB27 := Aside0.mk gb27
                  have GG27 := Aside0.mk HG27
                  clear gb27 gl27 HG27
                  (first | simp only [add_plain] at hx118_0 | skip)
                  obtain ⟨hx27_0, hf27_0⟩ := Kd.R_celln 0 HO_6.out ((ji18) : Int) p27 q27
                  replace p27 := eq_true p27
                  replace q27 := eq_true q27
                  have HP31 := Kd.R_putg HO_6.out ((ji18) : Int) (Go.bits .or .u8 (rd x6_2 (ji18)) (ji26))
                  go_wp2_with (first | ((with_reducible refine gate_store (t := 5) (p := 60) rfl ?_); refine store_event (t := 5) (p := 60) (v := ?vo_w32) (w1 := (wr.setCell ⟨go27, ((ji18) : Int).toNat, none⟩ (.int .u8 (Go.bits .or .u8 (rd x6_2 (ji18)) (ji26))))) ?hg ?ho ?hn ?hr ?_; (case ho => rfl); (case hg => rfl); (case hn => rfl); (case hr => first | (go_simp; done) | (go_simp; rfl)); intro w32 hw; have hg : wr.grownBy w32 (some go27) := (by rw [hw]; exact HP31.2); have hp_ : Kd.R (Kd.int .u8) 5 w32 w.heap.size (fun _ => True) (.slice (some ⟨go27, 0, none⟩) x6_2.length co30) y119 := (by rw [hw, Ny119.out]; exact HP31.1); clear HP31; have n0_ := Aside0.mk (hp_); have n1_ := Aside0.mk ((by rw [hw]; exact below_set (HB.out) GB27.out : Below w.heap.size w w32)); clear HO_6; clear HB; have HO_6 := n0_; have HB := n1_; clear n0_ n1_; clear hg hw hp_))
                  go_roundg k2
                  case measure => have := HK1.out; have := HK2.out; omega
                  case rel => exact ⟨(y119), (wrap64 (x7_2 + (ji17))), (ji29), (wrap64 (x10_2 - (ji17))), (by first | rfl | (simp; done) | (simp only [← hji17] <;> (first | rfl | simp)) | (simp [*]; done)), (by first | rfl | (simp; done) | (simp only [← hji29] <;> (first | rfl | simp)) | (simp [*]; done)), (by first | rfl | (simp; done) | (simp only [← hji17] <;> (first | rfl | simp)) | (simp [*]; done)), H', ⟨by have := HK1.out; have := HK2.out; omega⟩, ⟨by (with_reducible repeat (first | apply Kd.R_alloc | apply Kd.R_drewN | apply Kd.R_drew)); exact HO_6.out⟩, ⟨by repeat (first | (with_reducible first | exact HB.out | apply below_alloc | apply pw_below_drewN | apply below_drew1) | exact HB.out)⟩⟩
                 ·rw [if_neg c25] at H
                  exact absurd H (by simp)
                ·rw [if_neg c22] at H
                 exact absurd H (by simp)
               ·rw [if_neg c20] at H
                exact absurd H (by simp)
              ·rw [if_neg c19] at H
               exact absurd H (by simp)
             ·rw [if_neg c16] at H
              have c16b0 : decide (0 < x10_2) = false := decide_eq_false c16
              clear c16
              have H' := Aside0.mk H
              clear H
              go_wp2
              go_roundg k2
              case measure => have := HK1.out; have := HK2.out; omega
              case rel => exact ⟨(x6_2), (x7_2), (wrap64 (x31_1 + 1)), (by first | rfl | (simp; done) | (simp [*]; done)), (by first | rfl | (simp; done) | (simp [*]; done)), H', ⟨by have := HK1.out; have := HK2.out; omega⟩, ⟨by (with_reducible repeat (first | apply Kd.R_alloc | apply Kd.R_drewN | apply Kd.R_drew)); exact HO_6.out⟩, ⟨by repeat (first | (with_reducible first | exact HB.out | apply below_alloc | apply pw_below_drewN | apply below_drew1) | exact HB.out)⟩⟩
          ·rw [if_neg c15] at H
           exact absurd H (by simp)
         ·rw [if_neg c14] at H
          exact absurd H (by simp)
        ·rw [if_neg c13] at H
         have c13b0 : decide (x31_1 < (l1.length : Int)) = false := decide_eq_false c13
         clear c13
         simp only [Option.some.injEq, Prod.mk.injEq] at H
         obtain ⟨rfl, rfl⟩ := H
         go_wp2
         go_ret2
         exact ⟨_, by first | rfl | (simp [errW_none, errW_some] <;> rfl) | (simp [*, errW_none, errW_some] <;> rfl), by (with_reducible repeat (first | apply Kd.R_alloc | apply Kd.R_drewN | apply Kd.R_drew)); exact HO_6.out, by repeat (first | (with_reducible first | exact HB.out | apply below_alloc | apply pw_below_drewN | apply below_drew1) | exact HB.out)⟩
     ·rw [if_neg c10] at H
      exact absurd H (by simp)
    ·rw [if_neg c9] at H
     exact absurd H (by simp)

/-! ### bits_Fold: function 28 -/
def bits_Fold.f (a0 : Int) : Option (Int) := some (Go.bits .xor .u64 (IntKind.u64.wrap (wrap64 (a0 * 2))) (IntKind.u64.wrap (a0 / 9223372036854775808)))
set_option maxHeartbeats 8000000 in
set_option maxRecDepth 100000 in
theorem bits_Fold.calls (a0 : Int) (r : Int) (w : World) (h : bits_Fold.f a0 = some r) :
  Calls Try.prog 28 #[.int .i64 a0] w fun e w' => e = .returned (.int .u64 r) ∧ Drawn0 w w' := by
 have H : (some (Go.bits .xor .u64 (IntKind.u64.wrap (wrap64 (a0 * 2))) (IntKind.u64.wrap (a0 / 9223372036854775808)))) = some r := h
 clear h
 obtain rfl := Option.some.inj H
 go_enter Try.func28, Try.ntmps28
 go_wp2
 go_ret
 exact ⟨by first | rfl | (simp; done) | (simp [*]; done), by repeat (first | exact Drawn0.refl _ | apply Drawn0.step)⟩

/-! ### packed_Encode: function 9 -/
def packed_Encode.l0 : Nat → List Int → Int → List Int → List Int → Int → Int → Option (List Int × Int)
 | 0, _, _, _, _, _, _ => none
 | k + 1, x4, x5, x6, x28, x29, x30 => if x30 < x29 then (if 0 ≤ x30 then (if x30 < (x28.length : Int) then (if x30 < (x6.length : Int) then (packed_Encode.l0 k x4 x5 (x6.set (x30 : Int).toNat (IntKind.u64.wrap ((IntKind.u64.wrap (rd x28 x30)) - (IntKind.u64.wrap (x5))))) x28 x29 (wrap64 (x30 + 1))) else (none)) else (none)) else (none)) else ((bits_Width.f k x6).bind fun t129 => ((bits_Pack.f k t129 x6).bind fun bt130 => ((bits_Fold.f x5).bind fun t134 => ((vint_Put.f k t134).bind fun t135 => (if x4.length + t135.length < 140737488355328 then ((some (x4 ++ t135 : List Int)).bind fun y138 => (if y138.length < 140737488355328 then ((some (y138 ++ [(t129) % 256] : List Int)).bind fun y141 => (if y141.length + bt130.1.length < 140737488355328 then (some ((y141 ++ bt130.1), bt130.2)) else (none))) else (none))) else (none))))))
def packed_Encode.f (k : Nat) (l0 : List Int) : Option (List Int × Int) := if (l0.length : Int) > 4096 then (some (([] : List Int), 4)) else ((vint_Put.f k (IntKind.u64.wrap ((l0.length : Int)))).bind fun t120 => (if (l0.length : Int) = 0 then (some (t120, 0)) else ((slices_Min_int64_int64.f k l0).bind fun t123 => (if 0 ≤ (l0.length : Int) then (if ((l0.length : Int) : Int).toNat ≤ 35184372088832 then (packed_Encode.l0 k t120 t123 (List.replicate ((l0.length : Int) : Int).toNat 0) l0 (l0.length : Int) 0) else (none)) else (none)))))
theorem packed_Encode.mono_l : ∀ k, (∀ y0 y1 y2 y3 y4 y5, LeO (packed_Encode.l0 k y0 y1 y2 y3 y4 y5) (packed_Encode.l0 (k + 1) y0 y1 y2 y3 y4 y5))
 | 0 => fun _ _ _ _ _ _ r h => by simp [packed_Encode.l0] at h
 | k + 1 => by
  have ih0 := packed_Encode.mono_l k
  ·intro y0 y1 y2 y3 y4 y5
   unfold packed_Encode.l0
   repeat' first
   | (with_reducible exact ih0 _ _ _ _ _ _)
   | (with_reducible exact bits_Pack.mono _ _ _)
   | (with_reducible exact bits_Width.mono _ _)
   | (with_reducible exact slices_Min_int64_int64.mono _ _)
   | (with_reducible exact vint_Put.mono _ _)
   | (with_reducible exact LeO.refl _)
   | (with_reducible exact LeO.none _)
   | (with_reducible refine LeO.ite ?_ ?_)
   | (with_reducible refine LeO.bind ?_ (fun _ => ?_))
   | exact ih0 _ _ _ _ _ _
   | exact bits_Pack.mono _ _ _
   | exact bits_Width.mono _ _
   | exact slices_Min_int64_int64.mono _ _
   | exact vint_Put.mono _ _
   | exact LeO.none _
   | refine LeO.ite ?_ ?_
   | refine LeO.bind ?_ (fun _ => ?_)
theorem packed_Encode.mono : ∀ a0 k, LeO (packed_Encode.f k a0) (packed_Encode.f (k + 1) a0) := by
 intro a0 k
 have ih0 := packed_Encode.mono_l k
 unfold packed_Encode.f
 repeat' first
   | (with_reducible exact ih0 _ _ _ _ _ _)
   | (with_reducible exact bits_Pack.mono _ _ _)
   | (with_reducible exact bits_Width.mono _ _)
   | (with_reducible exact slices_Min_int64_int64.mono _ _)
   | (with_reducible exact vint_Put.mono _ _)
   | (with_reducible exact LeO.refl _)
   | (with_reducible exact LeO.none _)
   | (with_reducible refine LeO.ite ?_ ?_)
   | (with_reducible refine LeO.bind ?_ (fun _ => ?_))
   | exact ih0 _ _ _ _ _ _
   | exact bits_Pack.mono _ _ _
   | exact bits_Width.mono _ _
   | exact slices_Min_int64_int64.mono _ _
   | exact vint_Put.mono _ _
   | exact LeO.none _
   | refine LeO.ite ?_ ?_
   | refine LeO.bind ?_ (fun _ => ?_)
set_option maxHeartbeats 8000000 in
set_option maxRecDepth 100000 in
theorem packed_Encode.calls (k : Nat) (A0 : Option Addr) (c0 : Nat) (l0 : List Int) (r1 : List Int) (r2 : Int) (w : World) (hr0 : Kd.C (Kd.int .i64) w A0 l0.length l0) (hc0 : l0.length ≤ c0) (h : packed_Encode.f k l0 = some (r1, r2)) :
  Calls Try.prog 9 #[.slice A0 l0.length c0] w fun e w' => ∃ v0_ : Value, e = .returned (.tuple #[v0_, .int .i64 r2]) ∧ Kd.R (Kd.int .u8) 5 w' w.heap.size (fun _ => True) v0_ r1 ∧ Below w.heap.size w w' := by
 have HR0 := Aside0.mk hr0
 have HC0 := Aside0.mk hc0
 clear hr0 hc0
 have HB := Aside0.mk (Below.refl w.heap.size w)
 have H : (if (l0.length : Int) > 4096 then (some (([] : List Int), 4)) else ((vint_Put.f k (IntKind.u64.wrap ((l0.length : Int)))).bind fun t120 => (if (l0.length : Int) = 0 then (some (t120, 0)) else ((slices_Min_int64_int64.f k l0).bind fun t123 => (if 0 ≤ (l0.length : Int) then (if ((l0.length : Int) : Int).toNat ≤ 35184372088832 then (packed_Encode.l0 k t120 t123 (List.replicate ((l0.length : Int) : Int).toNat 0) l0 (l0.length : Int) 0) else (none)) else (none)))))) = some (r1, r2) := h
 clear h
 by_cases c2 : (l0.length : Int) > 4096
 ·rw [if_pos c2] at H
  have c2b0 : decide (4096 < (l0.length : Int)) = true := decide_eq_true c2
  have c2b1 : decide (4096 < l0.length) = true := decide_eq_true (by omega)
  clear c2
  simp only [Option.some.injEq, Prod.mk.injEq] at H
  obtain ⟨rfl, rfl⟩ := H
  go_enter Try.func9, Try.ntmps9
  go_wp2
  go_ret2
  exact ⟨_, by first | rfl | (simp [errW_none, errW_some] <;> rfl) | (simp [*, errW_none, errW_some] <;> rfl), by first | exact Kd.R_nil _ _ _ _ _ | exact Kd.N_nil _ _ _ _ _ | exact Kd.V_nil _ _ _ _ _ | exact Kd.Q_nil _ _ _ _ _ | exact Kd.S_nil _ _ _ _ _, by repeat (first | (with_reducible first | exact HB.out | apply below_alloc | apply pw_below_drewN | apply below_drew1) | exact HB.out)⟩
 ·rw [if_neg c2] at H
  have c2b0 : decide (4096 < (l0.length : Int)) = false := decide_eq_false c2
  have c2b1 : decide (4096 < l0.length) = false := decide_eq_false (by omega)
  clear c2
  replace H := Option.bind_eq_some_iff.mp H
  obtain ⟨t120, A30, H⟩ := H
  replace H : (if (l0.length : Int) = 0 then (some (t120, 0)) else ((slices_Min_int64_int64.f k l0).bind fun t123 => (if 0 ≤ (l0.length : Int) then (if ((l0.length : Int) : Int).toNat ≤ 35184372088832 then (packed_Encode.l0 k t120 t123 (List.replicate ((l0.length : Int) : Int).toNat 0) l0 (l0.length : Int) 0) else (none)) else (none)))) = some (r1, r2) := H
  have A3 := Aside0.mk A30
  clear A30
  by_cases c4 : (l0.length : Int) = 0
  ·rw [if_pos c4] at H
   have c4b0 : ((l0.length : Int) == 0) = true := beq_iff_eq.mpr c4
   have c4b1 : ((l0.length : Int) != 0) = false := bne_eq_false_iff_eq.mpr c4
   clear c4
   simp only [Option.some.injEq, Prod.mk.injEq] at H
   obtain ⟨rfl, rfl⟩ := H
   go_enter Try.func9, Try.ntmps9
   go_wp2_with (first | ((with_reducible refine gate_callee (f := 24) rfl ?_); refine goesL_ (some 18) rfl rfl Try.func24 (by kernel_rfl) rfl #[.int .u64 (IntKind.u64.wrap ((l0.length : Int)))] rfl (by (try simp only [List.map_toArray, List.map_cons, List.map_nil]); first | done | rfl | (simp only [List.length_drop, List.length_take]; rfl)) ?_; (with_reducible refine (vint_Put.calls k (IntKind.u64.wrap ((l0.length : Int))) t120 _ A3.out).mono ?_); rintro e w5 ⟨v121, rfl, ho0, hb⟩; refine ⟨_, rfl, ?_⟩; have n0_ := Aside0.mk (Kd.R_lower ho0 (below_size (by repeat (first | (with_reducible first | exact HB.out | apply below_alloc | apply pw_below_drewN | apply below_drew1) | exact HB.out)))); have n1_ := Aside0.mk (below_step (by repeat (first | (with_reducible first | exact HB.out | apply below_alloc | apply pw_below_drewN | apply below_drew1) | exact HB.out)) hb); clear HB; have HO122 := n0_; have HB := n1_; clear n0_ n1_; (try clear hb); (try clear hb2); (try clear hk); (try clear hi); (try clear ho0)))
   go_ret2
   exact ⟨_, by first | rfl | (simp [errW_none, errW_some] <;> rfl) | (simp [*, errW_none, errW_some] <;> rfl), by (with_reducible repeat (first | apply Kd.R_alloc | apply Kd.R_drewN | apply Kd.R_drew)); exact HO122.out, by repeat (first | (with_reducible first | exact HB.out | apply below_alloc | apply pw_below_drewN | apply below_drew1) | exact HB.out)⟩
  ·rw [if_neg c4] at H
   have c4b0 : ((l0.length : Int) == 0) = false := beq_eq_false_iff_ne.mpr c4
   have c4b1 : ((l0.length : Int) != 0) = true := bne_iff_ne.mpr c4
   have c4b2 : ¬ (l0 = []) := fun h_ => c4 (by rw [h_]; rfl)
   replace H := Option.bind_eq_some_iff.mp H
   obtain ⟨t123, A60, H⟩ := H
   replace H : (if 0 ≤ (l0.length : Int) then (if ((l0.length : Int) : Int).toNat ≤ 35184372088832 then (packed_Encode.l0 k t120 t123 (List.replicate ((l0.length : Int) : Int).toNat 0) l0 (l0.length : Int) 0) else (none)) else (none)) = some (r1, r2) := H
   have A6 := Aside0.mk A60
   clear A60
   by_cases c7 : 0 ≤ (l0.length : Int)
   ·rw [if_pos c7] at H
    have c7b0 := eq_true c7
    have c7b1 : decide (0 ≤ (l0.length : Int)) = true := decide_eq_true c7
    clear c7
    by_cases c8 : ((l0.length : Int) : Int).toNat ≤ 35184372088832
    ·rw [if_pos c8] at H
     have c8b0 := eq_true c8
     have c8b1 : decide (((l0.length : Int) : Int).toNat ≤ 35184372088832) = true := decide_eq_true c8
     clear c8
     obtain ⟨y124, hy124⟩ : ∃ y_ : List Int, y_ = (List.replicate ((l0.length : Int) : Int).toNat 0) := ⟨_, rfl⟩
     replace H : (packed_Encode.l0 k t120 t123 y124 l0 (l0.length : Int) 0) = some (r1, r2) := by first | (rw [hy124]; with_reducible exact H) | (have H2_ := (Option.bind_some _ _).symm.trans H; rw [hy124]; with_reducible exact H2_) | (have H2_ := (Option.bind_some _ _).symm.trans H; with_reducible exact H2_) | with_reducible exact H | (rw [hy124]; exact H) | exact H
     have Ny124 := Aside0.mk hy124
     clear hy124
     have H' := Aside0.mk H
     clear H
     go_enter Try.func9, Try.ntmps9
     go_wp2_with (first | ((with_reducible refine gate_callee (f := 24) rfl ?_); refine goesL_ (some 18) rfl rfl Try.func24 (by kernel_rfl) rfl #[.int .u64 (IntKind.u64.wrap ((l0.length : Int)))] rfl (by (try simp only [List.map_toArray, List.map_cons, List.map_nil]); first | done | rfl | (simp only [List.length_drop, List.length_take]; rfl)) ?_; (with_reducible refine (vint_Put.calls k (IntKind.u64.wrap ((l0.length : Int))) t120 _ A3.out).mono ?_); rintro e w9 ⟨v121, rfl, ho0, hb⟩; refine ⟨_, rfl, ?_⟩; have n0_ := Aside0.mk (Kd.R_lower ho0 (below_size (by repeat (first | (with_reducible first | exact HB.out | apply below_alloc | apply pw_below_drewN | apply below_drew1) | exact HB.out)))); have n1_ := Aside0.mk (below_step (by repeat (first | (with_reducible first | exact HB.out | apply below_alloc | apply pw_below_drewN | apply below_drew1) | exact HB.out)) hb); clear HB; have HO122 := n0_; have HB := n1_; clear n0_ n1_; (try clear hb); (try clear hb2); (try clear hk); (try clear hi); (try clear ho0)) | ((with_reducible refine gate_callee (f := 25) rfl ?_); refine goesL_ (some 24) rfl rfl Try.func25 (by kernel_rfl) rfl #[.slice A0 l0.length c0] rfl (by (try simp only [List.map_toArray, List.map_cons, List.map_nil]); first | done | rfl | (simp only [List.length_drop, List.length_take]; rfl)) ?_; (with_reducible refine (slices_Min_int64_int64.calls k _ _ l0 t123 _ ?side1 ?side2 A6.out).mono ?_); (case side1 => repeat (first | exact (Kd.C_below HR0.out HB.out) | (with_reducible refine Kd.C_alloc ?_ _) | (with_reducible refine Kd.C_drewN ?_ _) | (with_reducible refine Kd.C_drew ?_))); (case side2 => exact HC0.out); rintro e w10 ⟨rfl, hb⟩; refine ⟨_, rfl, ?_⟩; have n0_ := Aside0.mk (Kd.R_below (by (with_reducible repeat (first | apply Kd.R_alloc | apply Kd.R_drewN | apply Kd.R_drew)); exact HO122.out) hb); have n1_ := Aside0.mk (below_step (by repeat (first | (with_reducible first | exact HB.out | apply below_alloc | apply pw_below_drewN | apply below_drew1) | exact HB.out)) hb); clear HO122; clear HB; have HO122 := n0_; have HB := n1_; clear n0_ n1_; (try clear hb); (try clear hb2); (try clear hk); (try clear hi)) | ((with_reducible refine gate_dst (N := 27) rfl ?_); refine Kd.R_make (Kd.int .u64) _ 46 rfl (N := 27) rfl 50 _ _ rfl (l0.length : Int) rfl rfl Try.underlying50 (.int .u64 0) 8 info46 rfl (by decide) (by omega) 0 (ok := fun _ => True) (okp := fun _ => True) rfl (fun _ hk => hk) trivial (of_decide_eq_true (by first | (with_reducible assumption) | assumption)) (Nat.le_trans (Nat.mul_le_mul_right _ (of_decide_eq_true (by first | (with_reducible assumption) | assumption) : (l0.length : Int).toNat ≤ 35184372088832)) (by omega)) (Below.refl _ _) (Nat.le_refl _) ?_; intro v125 w11 ho12 hb hg_ hnew_; clear hg_ hnew_; (first | rw [← Ny124.out] at ho12 | (simp only [Int.reduceToNat] at ho12; rw [← Ny124.out] at ho12)); have n0_ := Aside0.mk (Kd.R_below (by (with_reducible repeat (first | apply Kd.R_alloc | apply Kd.R_drewN | apply Kd.R_drew)); exact HO122.out) hb); have n1_ := Aside0.mk (Kd.R_lower ho12 (below_size (by repeat (first | (with_reducible first | exact HB.out | apply below_alloc | apply pw_below_drewN | apply below_drew1) | exact HB.out)))); have n2_ := Aside0.mk (below_step (by repeat (first | (with_reducible first | exact HB.out | apply below_alloc | apply pw_below_drewN | apply below_drew1) | exact HB.out)) hb); clear HO122; clear HB; have HO122 := n0_; have HO126 := n1_; have HB := n2_; clear n0_ n1_ n2_; clear hb ho12))
     go_loopg [30] k (fun kq v30 w' => ∃ (x6_1 : List Int) (x30_1 : Int), v30 = .int .i64 x30_1 ∧ Aside0 (packed_Encode.l0 kq t120 t123 x6_1 l0 (l0.length : Int) x30_1 = some (r1, r2)) ∧ Aside0 (kq ≤ k) ∧ Aside0 (Kd.R (Kd.int .u8) 5 w' w.heap.size (fun _ => True) v121 t120) ∧ Aside0 (Kd.R (Kd.int .u64) 46 w' w.heap.size (fun _ => True) v125 x6_1) ∧ Aside0 (Below w.heap.size w w'))
     case atStart => exact ⟨(y124), (0), (by first | rfl | (simp; done) | (simp [*]; done)), H', ⟨Nat.le_refl _⟩, ⟨by (with_reducible repeat (first | apply Kd.R_alloc | apply Kd.R_drewN | apply Kd.R_drew)); exact HO122.out⟩, ⟨by (with_reducible repeat (first | apply Kd.R_alloc | apply Kd.R_drewN | apply Kd.R_drew)); exact HO126.out⟩, ⟨by repeat (first | (with_reducible first | exact HB.out | apply below_alloc | apply pw_below_drewN | apply below_drew1) | exact HB.out)⟩⟩
     case round =>
      clear H'
      try clear c2
      try clear c2b0
      try clear c2b1
      try clear p2
      try clear c4
      try clear c4b0
      try clear c4b1
      try clear c4b2
      try clear c7
      try clear c7b0
      try clear c7b1
      try clear c8
      try clear c8b0
      try clear c8b1
      try clear c9
      obtain ⟨x6_1, x30_1, rfl, HA, HK1, HO_4, HO_6, HB⟩ := hrel
      cases gk with
      | zero => exact absurd HA.out (by simp [packed_Encode.l0])
      | succ k1 =>
       have H := HA.out
       clear HA
       simp only [packed_Encode.l0] at H
       by_cases c13 : x30_1 < (l0.length : Int)
       ·rw [if_pos c13] at H
        have c13b0 : decide (x30_1 < (l0.length : Int)) = true := decide_eq_true c13
        clear c13
        by_cases c14 : 0 ≤ x30_1
        ·rw [if_pos c14] at H
         have c14b0 : decide (0 ≤ x30_1) = true := decide_eq_true c14
         clear c14
         by_cases c15 : x30_1 < (l0.length : Int)
         ·rw [if_pos c15] at H
          have c15b0 : decide (x30_1 < (l0.length : Int)) = true := decide_eq_true c15
          clear c15
          by_cases c16 : x30_1 < (x6_1.length : Int)
          ·rw [if_pos c16] at H
           have c16b0 : decide (x30_1 < (x6_1.length : Int)) = true := decide_eq_true c16
           clear c16
           obtain ⟨y128, hy128⟩ : ∃ y_ : List Int, y_ = (x6_1.set (x30_1 : Int).toNat (IntKind.u64.wrap ((IntKind.u64.wrap (rd l0 x30_1)) - (IntKind.u64.wrap (t123))))) := ⟨_, rfl⟩
           replace H : (packed_Encode.l0 k1 t120 t123 y128 l0 (l0.length : Int) (wrap64 (x30_1 + 1))) = some (r1, r2) := by first | (rw [hy128]; with_reducible exact H) | (have H2_ := (Option.bind_some _ _).symm.trans H; rw [hy128]; with_reducible exact H2_) | (have H2_ := (Option.bind_some _ _).symm.trans H; with_reducible exact H2_) | with_reducible exact H | (rw [hy128]; exact H) | exact H
           have Ny128 := Aside0.mk hy128
           clear hy128
           have H' := Aside0.mk H
           clear H
           have p127 : 0 ≤ (x30_1 : Int) := of_decide_eq_true (by first | (with_reducible assumption) | assumption)
           have q127 : x30_1 < (l0.length : Int) := of_decide_eq_true (by first | (with_reducible assumption) | assumption)
           obtain ⟨ad127, e127, hx127_0⟩ := Kd.at_int HR0.out x30_1 p127 q127
           cases e127
           replace hx127_0 := (HB.out.cell (World.block_lt_of_cell? w _ hx127_0)).trans hx127_0
           replace p127 := eq_true p127
           replace q127 := eq_true q127
           have p17 : 0 ≤ (x30_1 : Int) := of_decide_eq_true (by first | (with_reducible assumption) | assumption)
           have q17 : (x30_1 : Int) < ((x6_1.length : Int) : Int) := of_decide_eq_true (by first | (with_reducible assumption) | assumption)
           obtain ⟨go17, co17, eo17, gb17, gl17, cl17, HG17⟩ := Kd.R_form HO_6.out (by omega)
           (first | cases eo17 | (injection eo17 with ea_ en_ ec_; (first | subst ea_ | (injection ea_ with ea_; subst ea_)); subst ec_; clear en_))
           have GB17 := Aside0.mk gb17
           have GG17 := Aside0.mk HG17
           clear gb17 gl17 HG17
           obtain ⟨hx17_0, hf17_0⟩ := Kd.R_celln 0 HO_6.out (x30_1 : Int) p17 q17
           replace p17 := eq_true p17
           replace q17 := eq_true q17
           have HP18 := Kd.R_putg HO_6.out (x30_1 : Int) (IntKind.u64.wrap ((IntKind.u64.wrap (rd l0 x30_1)) - (IntKind.u64.wrap (t123))))
           go_wp2_with (first | ((with_reducible refine gate_store (t := 46) (p := 42) rfl ?_); refine store_event (t := 46) (p := 42) (v := ?vo_w19) (w1 := (wr.setCell ⟨go17, (x30_1 : Int).toNat, none⟩ (.int .u64 (IntKind.u64.wrap ((IntKind.u64.wrap (rd l0 x30_1)) - (IntKind.u64.wrap (t123))))))) ?hg ?ho ?hn ?hr ?_; (case ho => rfl); (case hg => rfl); (case hn => rfl); (case hr => first | (go_simp; done) | (go_simp; rfl)); intro w19 hw; have hg : wr.grownBy w19 (some go17) := (by rw [hw]; exact HP18.2); have hp_ : Kd.R (Kd.int .u64) 46 w19 w.heap.size (fun _ => True) (.slice (some ⟨go17, 0, none⟩) x6_1.length co17) y128 := (by rw [hw, Ny128.out]; exact HP18.1); clear HP18; have n0_ := Aside0.mk (Kd.R_over' (v := (.slice (some ⟨go17, 0, none⟩) x6_1.length co17)) (by (with_reducible repeat (first | apply Kd.R_alloc | apply Kd.R_drewN | apply Kd.R_drew)); exact HO_4.out) (Kd.R_typed HO_6.out) (by decide) hg); have n1_ := Aside0.mk (hp_); have n2_ := Aside0.mk ((by rw [hw]; exact below_set (HB.out) GB17.out : Below w.heap.size w w19)); clear HO_4; clear HO_6; clear HB; have HO_4 := n0_; have HO_6 := n1_; have HB := n2_; clear n0_ n1_ n2_; clear hg hw hp_))
           go_roundg k1
           case measure => have := HK1.out; omega
           case rel => exact ⟨(y128), (wrap64 (x30_1 + 1)), (by first | rfl | (simp; done) | (simp [*]; done)), H', ⟨by have := HK1.out; omega⟩, ⟨by (with_reducible repeat (first | apply Kd.R_alloc | apply Kd.R_drewN | apply Kd.R_drew)); exact HO_4.out⟩, ⟨by (with_reducible repeat (first | apply Kd.R_alloc | apply Kd.R_drewN | apply Kd.R_drew)); exact HO_6.out⟩, ⟨by repeat (first | (with_reducible first | exact HB.out | apply below_alloc | apply pw_below_drewN | apply below_drew1) | exact HB.out)⟩⟩
          ·rw [if_neg c16] at H
           exact absurd H (by simp)
         ·rw [if_neg c15] at H
          exact absurd H (by simp)
        ·rw [if_neg c14] at H
         exact absurd H (by simp)
       ·rw [if_neg c13] at H
        have c13b0 : decide (x30_1 < (l0.length : Int)) = false := decide_eq_false c13
        clear c13
        replace H := Option.bind_eq_some_iff.mp H
        obtain ⟨t129, A200, H⟩ := H
        replace H : ((bits_Pack.f k1 t129 x6_1).bind fun bt130 => ((bits_Fold.f t123).bind fun t134 => ((vint_Put.f k1 t134).bind fun t135 => (if t120.length + t135.length < 140737488355328 then ((some (t120 ++ t135 : List Int)).bind fun y138 => (if y138.length < 140737488355328 then ((some (y138 ++ [(t129) % 256] : List Int)).bind fun y141 => (if y141.length + bt130.1.length < 140737488355328 then (some ((y141 ++ bt130.1), bt130.2)) else (none))) else (none))) else (none))))) = some (r1, r2) := H
        have A20 := Aside0.mk A200
        clear A200
        replace H := Option.bind_eq_some_iff.mp H
        obtain ⟨⟨t130, t131⟩, A210, H⟩ := H
        replace H : ((bits_Fold.f t123).bind fun t134 => ((vint_Put.f k1 t134).bind fun t135 => (if t120.length + t135.length < 140737488355328 then ((some (t120 ++ t135 : List Int)).bind fun y138 => (if y138.length < 140737488355328 then ((some (y138 ++ [(t129) % 256] : List Int)).bind fun y141 => (if y141.length + t130.length < 140737488355328 then (some ((y141 ++ t130), t131)) else (none))) else (none))) else (none)))) = some (r1, r2) := H
        have A21 := Aside0.mk A210
        clear A210
        replace H := Option.bind_eq_some_iff.mp H
        obtain ⟨t134, A220, H⟩ := H
        replace H : ((vint_Put.f k1 t134).bind fun t135 => (if t120.length + t135.length < 140737488355328 then ((some (t120 ++ t135 : List Int)).bind fun y138 => (if y138.length < 140737488355328 then ((some (y138 ++ [(t129) % 256] : List Int)).bind fun y141 => (if y141.length + t130.length < 140737488355328 then (some ((y141 ++ t130), t131)) else (none))) else (none))) else (none))) = some (r1, r2) := H
        have A22 := Aside0.mk A220
        clear A220
        replace H := Option.bind_eq_some_iff.mp H
        obtain ⟨t135, A230, H⟩ := H
        replace H : (if t120.length + t135.length < 140737488355328 then ((some (t120 ++ t135 : List Int)).bind fun y138 => (if y138.length < 140737488355328 then ((some (y138 ++ [(t129) % 256] : List Int)).bind fun y141 => (if y141.length + t130.length < 140737488355328 then (some ((y141 ++ t130), t131)) else (none))) else (none))) else (none)) = some (r1, r2) := H
        have A23 := Aside0.mk A230
        clear A230
        by_cases c24 : t120.length + t135.length < 140737488355328
        ·rw [if_pos c24] at H
         have LMc24 := Aside0.mk c24
         clear c24
         obtain ⟨y138, hy138⟩ : ∃ y_ : List Int, y_ = (t120 ++ t135) := ⟨_, rfl⟩
         replace H : (if y138.length < 140737488355328 then ((some (y138 ++ [(t129) % 256] : List Int)).bind fun y141 => (if y141.length + t130.length < 140737488355328 then (some ((y141 ++ t130), t131)) else (none))) else (none)) = some (r1, r2) := by first | (rw [hy138]; with_reducible exact H) | (have H2_ := (Option.bind_some _ _).symm.trans H; rw [hy138]; with_reducible exact H2_) | (have H2_ := (Option.bind_some _ _).symm.trans H; with_reducible exact H2_) | with_reducible exact H | (rw [hy138]; exact H) | exact H
         have Ny138 := Aside0.mk hy138
         clear hy138
         by_cases c25 : y138.length < 140737488355328
         ·rw [if_pos c25] at H
          have LMc25 := Aside0.mk c25
          clear c25
          obtain ⟨y141, hy141⟩ : ∃ y_ : List Int, y_ = (y138 ++ [(t129) % 256]) := ⟨_, rfl⟩
          replace H : (if y141.length + t130.length < 140737488355328 then (some ((y141 ++ t130), t131)) else (none)) = some (r1, r2) := by first | (rw [hy141]; with_reducible exact H) | (have H2_ := (Option.bind_some _ _).symm.trans H; rw [hy141]; with_reducible exact H2_) | (have H2_ := (Option.bind_some _ _).symm.trans H; with_reducible exact H2_) | with_reducible exact H | (rw [hy141]; exact H) | exact H
          have Ny141 := Aside0.mk hy141
          clear hy141
          by_cases c26 : y141.length + t130.length < 140737488355328
          ·rw [if_pos c26] at H
           have LMc26 := Aside0.mk c26
           clear c26
           obtain ⟨y144, hy144⟩ : ∃ y_ : List Int, y_ = (y141 ++ t130) := ⟨_, rfl⟩
           replace H : (some (y144, t131)) = some (r1, r2) := by first | (rw [hy144]; with_reducible exact H) | (have H2_ := (Option.bind_some _ _).symm.trans H; rw [hy144]; with_reducible exact H2_) | (have H2_ := (Option.bind_some _ _).symm.trans H; with_reducible exact H2_) | with_reducible exact H | (rw [hy144]; exact H) | exact H
           have Ny144 := Aside0.mk hy144
           clear hy144
           simp only [Option.some.injEq, Prod.mk.injEq] at H
           obtain ⟨rfl, rfl⟩ := H
           obtain ⟨Ao27, co27, eo27⟩ := Kd.R_slice HO_6.out
           subst eo27
           go_wp2_with (first | ((with_reducible refine gate_callee (f := 26) rfl ?_); refine goesL_ (some 45) rfl rfl Try.func26 (by kernel_rfl) rfl #[.slice Ao27 x6_1.length co27] rfl (by (try simp only [List.map_toArray, List.map_cons, List.map_nil]); first | done | rfl | (simp only [List.length_drop, List.length_take]; rfl)) ?_; (with_reducible refine (bits_Width.calls k1 _ _ x6_1 t129 _ ?side1 ?side2 A20.out).mono ?_); (case side1 => repeat (first | exact (Kd.R_reads' HO_6.out).2.2 | (with_reducible refine Kd.C_alloc ?_ _) | (with_reducible refine Kd.C_drewN ?_ _) | (with_reducible refine Kd.C_drew ?_))); (case side2 => exact (Kd.R_reads' HO_6.out).2.1); rintro e w' ⟨rfl, ⟨nd, rfl⟩⟩; refine ⟨_, rfl, ?_⟩) | ((with_reducible refine gate_callee (f := 27) rfl ?_); refine goesL_ (some 49) rfl rfl Try.func27 (by kernel_rfl) rfl #[.int .i64 t129, .slice Ao27 x6_1.length co27] rfl (by (try simp only [List.map_toArray, List.map_cons, List.map_nil]); first | done | rfl | (simp only [List.length_drop, List.length_take]; rfl)) ?_; (with_reducible refine (bits_Pack.calls k1 t129 _ _ x6_1 t130 t131 _ ?side1 ?side2 A21.out).mono ?_); (case side1 => repeat (first | exact (Kd.R_reads' HO_6.out).2.2 | (with_reducible refine Kd.C_alloc ?_ _) | (with_reducible refine Kd.C_drewN ?_ _) | (with_reducible refine Kd.C_drew ?_))); (case side2 => exact (Kd.R_reads' HO_6.out).2.1); rintro e w28 ⟨v132, rfl, ho0, hb⟩; refine ⟨_, rfl, ?_⟩; have n0_ := Aside0.mk (Kd.R_elder' (by (with_reducible repeat (first | apply Kd.R_alloc | apply Kd.R_drewN | apply Kd.R_drew)); exact HO_4.out) (Kd.R_base ho0) hb); have n1_ := Aside0.mk (Kd.R_below (by (with_reducible repeat (first | apply Kd.R_alloc | apply Kd.R_drewN | apply Kd.R_drew)); exact HO_6.out) hb); have n2_ := Aside0.mk (Kd.R_lower (Kd.R_new' ho0 (Kd.R_lt (by (with_reducible repeat (first | apply Kd.R_alloc | apply Kd.R_drewN | apply Kd.R_drew)); exact HO_4.out))) (below_size (by repeat (first | (with_reducible first | exact HB.out | apply below_alloc | apply pw_below_drewN | apply below_drew1) | exact HB.out)))); have n3_ := Aside0.mk (below_step (by repeat (first | (with_reducible first | exact HB.out | apply below_alloc | apply pw_below_drewN | apply below_drew1) | exact HB.out)) hb); clear HO_4; clear HO_6; clear HB; have HO_4 := n0_; have HO_6 := n1_; have HO133 := n2_; have HB := n3_; clear n0_ n1_ n2_ n3_; (try clear hb); (try clear hb2); (try clear hk); (try clear hi); (try clear ho0)) | ((with_reducible refine gate_callee (f := 28) rfl ?_); refine goesL_ (some 54) rfl rfl Try.func28 (by kernel_rfl) rfl #[.int .i64 t123] rfl (by (try simp only [List.map_toArray, List.map_cons, List.map_nil]); first | done | rfl | (simp only [List.length_drop, List.length_take]; rfl)) ?_; (with_reducible refine (bits_Fold.calls t123 t134 _ A22.out).mono ?_); rintro e w' ⟨rfl, ⟨nd, rfl⟩⟩; refine ⟨_, rfl, ?_⟩) | ((with_reducible refine gate_callee (f := 24) rfl ?_); refine goesL_ (some 55) rfl rfl Try.func24 (by kernel_rfl) rfl #[.int .u64 t134] rfl (by (try simp only [List.map_toArray, List.map_cons, List.map_nil]); first | done | rfl | (simp only [List.length_drop, List.length_take]; rfl)) ?_; (with_reducible refine (vint_Put.calls k1 t134 t135 _ A23.out).mono ?_); rintro e w29 ⟨v136, rfl, ho0, hb⟩; refine ⟨_, rfl, ?_⟩; have n0_ := Aside0.mk (Kd.R_elder' (by (with_reducible repeat (first | apply Kd.R_alloc | apply Kd.R_drewN | apply Kd.R_drew)); exact HO_4.out) (Kd.R_base ho0) hb); have n1_ := Aside0.mk (Kd.R_below (by (with_reducible repeat (first | apply Kd.R_alloc | apply Kd.R_drewN | apply Kd.R_drew)); exact HO_6.out) hb); have n2_ := Aside0.mk (Kd.R_elder' (by (with_reducible repeat (first | apply Kd.R_alloc | apply Kd.R_drewN | apply Kd.R_drew)); exact HO133.out) (Kd.R_base ho0) hb); have n3_ := Aside0.mk (Kd.R_lower (Kd.R_new' (Kd.R_new' ho0 (Kd.R_lt (by (with_reducible repeat (first | apply Kd.R_alloc | apply Kd.R_drewN | apply Kd.R_drew)); exact HO_4.out))) (Kd.R_lt (by (with_reducible repeat (first | apply Kd.R_alloc | apply Kd.R_drewN | apply Kd.R_drew)); exact HO133.out))) (below_size (by repeat (first | (with_reducible first | exact HB.out | apply below_alloc | apply pw_below_drewN | apply below_drew1) | exact HB.out)))); have n4_ := Aside0.mk (below_step (by repeat (first | (with_reducible first | exact HB.out | apply below_alloc | apply pw_below_drewN | apply below_drew1) | exact HB.out)) hb); clear HO_4; clear HO_6; clear HO133; clear HB; have HO_4 := n0_; have HO_6 := n1_; have HO133 := n2_; have HO137 := n3_; have HB := n4_; clear n0_ n1_ n2_ n3_ n4_; (try clear hb); (try clear hb2); (try clear hk); (try clear hi); (try clear ho0); obtain ⟨Ao31, co31, eo31⟩ := Kd.R_slice HO137.out; subst eo31) | ((with_reducible refine gate_builtin (b := .append) (xs := #[.tmp 52, .tmp 55]) rfl ?_); at_builtin; refine Kd.R_append_rows (Kd.int .u8) (w0 := w) w.heap.size rfl (.tmp 52) (.tmp 55) 25 5 (.int .u8 0) 1 rfl Try.underlying25 info5 rfl (by decide) (by omega) v121 t120 t135 _ _ _ (fun k_ => some k_ ≠ (v132 : Value).ownBlock ∧ some k_ ≠ (.slice Ao31 t135.length co31 : Value).ownBlock) (fun _ => False) rfl rfl ?aO ?aR (fun _ _ h => h) (fun _ h => h.elim) ?aF ?aB ?aS ?aL ?_; (case aR => repeat (first | exact (Kd.R_reads' HO137.out).2.2 | (with_reducible refine Kd.C_alloc ?_ _) | (with_reducible refine Kd.C_drewN ?_ _) | (with_reducible refine Kd.C_drew ?_))); (case aB => exact (by repeat (first | (with_reducible first | exact HB.out | apply below_alloc | apply pw_below_drewN | apply below_drew1) | exact HB.out))); (case aF => exact (fun k_ hk => ⟨Kd.fresh' (Kd.R_lt (by (with_reducible repeat (first | apply Kd.R_alloc | apply Kd.R_drewN | apply Kd.R_drew)); exact HO133.out)) k_ hk, Kd.fresh' (Kd.R_lt (by (with_reducible repeat (first | apply Kd.R_alloc | apply Kd.R_drewN | apply Kd.R_drew)); exact HO137.out)) k_ hk⟩)); (case aO => exact (by (with_reducible repeat (first | apply Kd.R_alloc | apply Kd.R_drewN | apply Kd.R_drew)); exact Kd.R_mono HO_4.out (fun _ hk => ⟨hk.1.2, hk.2⟩))); (case aS => exact (below_size (by repeat (first | (with_reducible first | exact HB.out | apply below_alloc | apply pw_below_drewN | apply below_drew1) | exact HB.out)))); (case aL => have := LMc24.out; omega); intro v139 w30 ho hb hg hat; rw [← Ny138.out] at ho; have n0_ := Aside0.mk (Kd.R_over' (by (with_reducible repeat (first | apply Kd.R_alloc | apply Kd.R_drewN | apply Kd.R_drew)); exact HO_6.out) (Kd.R_typed (by (with_reducible repeat (first | apply Kd.R_alloc | apply Kd.R_drewN | apply Kd.R_drew)); exact HO_4.out)) (by decide) hg); have n1_ := Aside0.mk (Kd.R_after (ok := (fun k_ => some k_ ≠ (.slice Ao31 t135.length co31 : Value).ownBlock)) (by (with_reducible repeat (first | apply Kd.R_alloc | apply Kd.R_drewN | apply Kd.R_drew)); exact Kd.R_mono HO133.out (fun _ hk => ⟨hk.2, hk.1.2⟩)) hg hat); have n2_ := Aside0.mk (Kd.R_after (ok := (fun k_ => some k_ ≠ (v132 : Value).ownBlock)) (by (with_reducible repeat (first | apply Kd.R_alloc | apply Kd.R_drewN | apply Kd.R_drew)); exact Kd.R_mono HO137.out (fun _ hk => ⟨hk.2, hk.1.2⟩)) hg hat); have n3_ := Aside0.mk (hb); have n4_ := Aside0.mk (ho); clear HO_6; clear HO133; clear HO137; clear HB; clear HO_4; have HO_6 := n0_; have HO133 := n1_; have HO137 := n2_; have HB := n3_; have HO140 := n4_; clear n0_ n1_ n2_ n3_ n4_; clear ho hb hg hat) | ((with_reducible refine gate_builtin (b := .append) (xs := #[.tmp 57, .tmp 60]) rfl ?_); at_builtin; refine Kd.R_append (Kd.int .u8) (w0 := w) w.heap.size rfl (.tmp 57) (.tmp 60) 25 5 (.int .u8 0) 1 rfl Try.underlying25 info5 rfl (by decide) (by omega) v139 y138 ((t129) % 256) [.int .u8 ((t129) % 256)] (fun k_ => some k_ ≠ (v132 : Value).ownBlock ∧ some k_ ≠ (.slice Ao31 t135.length co31 : Value).ownBlock) (fun _ => False) rfl rfl ?aP (fun _ hk => hk.elim) ?aF ?aO ?aB ?aS ?aL ?_; (case aP => exact rfl); (case aB => exact (by repeat (first | (with_reducible first | exact HB.out | apply below_alloc | apply pw_below_drewN | apply below_drew1) | exact HB.out))); (case aF => exact (fun k_ hk => ⟨Kd.fresh' (Kd.R_lt (by (with_reducible repeat (first | apply Kd.R_alloc | apply Kd.R_drewN | apply Kd.R_drew)); exact HO133.out)) k_ hk, Kd.fresh' (Kd.R_lt (by (with_reducible repeat (first | apply Kd.R_alloc | apply Kd.R_drewN | apply Kd.R_drew)); exact HO137.out)) k_ hk⟩)); (case aO => exact (by (with_reducible repeat (first | apply Kd.R_alloc | apply Kd.R_drewN | apply Kd.R_drew)); exact HO140.out)); (case aS => exact (below_size (by repeat (first | (with_reducible first | exact HB.out | apply below_alloc | apply pw_below_drewN | apply below_drew1) | exact HB.out)))); (case aL => have := LMc25.out; omega); intro v142 w32 ho hb hg hat; rw [← Ny141.out] at ho; have n0_ := Aside0.mk (Kd.R_over' (by (with_reducible repeat (first | apply Kd.R_alloc | apply Kd.R_drewN | apply Kd.R_drew)); exact HO_6.out) (Kd.R_typed (by (with_reducible repeat (first | apply Kd.R_alloc | apply Kd.R_drewN | apply Kd.R_drew)); exact HO140.out)) (by decide) hg); have n1_ := Aside0.mk (Kd.R_after (ok := (fun k_ => some k_ ≠ (.slice Ao31 t135.length co31 : Value).ownBlock)) (by (with_reducible repeat (first | apply Kd.R_alloc | apply Kd.R_drewN | apply Kd.R_drew)); exact HO133.out) hg hat); have n2_ := Aside0.mk (Kd.R_after (ok := (fun k_ => some k_ ≠ (v132 : Value).ownBlock)) (by (with_reducible repeat (first | apply Kd.R_alloc | apply Kd.R_drewN | apply Kd.R_drew)); exact HO137.out) hg hat); have n3_ := Aside0.mk (hb); have n4_ := Aside0.mk (ho); clear HO_6; clear HO133; clear HO137; clear HB; clear HO140; have HO_6 := n0_; have HO133 := n1_; have HO137 := n2_; have HB := n3_; have HO143 := n4_; clear n0_ n1_ n2_ n3_ n4_; clear ho hb hg hat; obtain ⟨Ao34, co34, eo34⟩ := Kd.R_slice HO133.out; subst eo34) | ((with_reducible refine gate_builtin (b := .append) (xs := #[.tmp 61, .tmp 62]) rfl ?_); at_builtin; refine Kd.R_append_rows (Kd.int .u8) (w0 := w) w.heap.size rfl (.tmp 61) (.tmp 62) 25 5 (.int .u8 0) 1 rfl Try.underlying25 info5 rfl (by decide) (by omega) v142 y141 t130 _ _ _ (fun k_ => some k_ ≠ (.slice Ao34 t130.length co34 : Value).ownBlock ∧ some k_ ≠ (.slice Ao31 t135.length co31 : Value).ownBlock) (fun _ => False) rfl rfl ?aO ?aR (fun _ _ h => h) (fun _ h => h.elim) ?aF ?aB ?aS ?aL ?_; (case aR => repeat (first | exact (Kd.R_reads' HO133.out).2.2 | (with_reducible refine Kd.C_alloc ?_ _) | (with_reducible refine Kd.C_drewN ?_ _) | (with_reducible refine Kd.C_drew ?_))); (case aB => exact (by repeat (first | (with_reducible first | exact HB.out | apply below_alloc | apply pw_below_drewN | apply below_drew1) | exact HB.out))); (case aF => exact (fun k_ hk => ⟨Kd.fresh' (Kd.R_lt (by (with_reducible repeat (first | apply Kd.R_alloc | apply Kd.R_drewN | apply Kd.R_drew)); exact HO133.out)) k_ hk, Kd.fresh' (Kd.R_lt (by (with_reducible repeat (first | apply Kd.R_alloc | apply Kd.R_drewN | apply Kd.R_drew)); exact HO137.out)) k_ hk⟩)); (case aO => exact (by (with_reducible repeat (first | apply Kd.R_alloc | apply Kd.R_drewN | apply Kd.R_drew)); exact HO143.out)); (case aS => exact (below_size (by repeat (first | (with_reducible first | exact HB.out | apply below_alloc | apply pw_below_drewN | apply below_drew1) | exact HB.out)))); (case aL => have := LMc26.out; omega); intro v145 w33 ho hb hg hat; rw [← Ny144.out] at ho; have n0_ := Aside0.mk (Kd.R_over' (by (with_reducible repeat (first | apply Kd.R_alloc | apply Kd.R_drewN | apply Kd.R_drew)); exact HO_6.out) (Kd.R_typed (by (with_reducible repeat (first | apply Kd.R_alloc | apply Kd.R_drewN | apply Kd.R_drew)); exact HO143.out)) (by decide) hg); have n1_ := Aside0.mk (Kd.R_after (ok := (fun k_ => some k_ ≠ (.slice Ao31 t135.length co31 : Value).ownBlock)) (by (with_reducible repeat (first | apply Kd.R_alloc | apply Kd.R_drewN | apply Kd.R_drew)); exact HO133.out) hg hat); have n2_ := Aside0.mk (Kd.R_after (ok := (fun k_ => some k_ ≠ (.slice Ao34 t130.length co34 : Value).ownBlock)) (by (with_reducible repeat (first | apply Kd.R_alloc | apply Kd.R_drewN | apply Kd.R_drew)); exact HO137.out) hg hat); have n3_ := Aside0.mk (hb); have n4_ := Aside0.mk (ho); clear HO_6; clear HO133; clear HO137; clear HB; clear HO143; have HO_6 := n0_; have HO133 := n1_; have HO137 := n2_; have HB := n3_; have HO146 := n4_; clear n0_ n1_ n2_ n3_ n4_; clear ho hb hg hat))
           go_ret2
           exact ⟨_, by first | rfl | (simp [errW_none, errW_some] <;> rfl) | (simp [*, errW_none, errW_some] <;> rfl), by (with_reducible repeat (first | apply Kd.R_alloc | apply Kd.R_drewN | apply Kd.R_drew)); exact Kd.R_mono HO146.out (fun _ hk => trivial), by repeat (first | (with_reducible first | exact HB.out | apply below_alloc | apply pw_below_drewN | apply below_drew1) | exact HB.out)⟩
          ·rw [if_neg c26] at H
           exact absurd H (by simp)
         ·rw [if_neg c25] at H
          exact absurd H (by simp)
        ·rw [if_neg c24] at H
         exact absurd H (by simp)
    ·rw [if_neg c8] at H
     exact absurd H (by simp)
   ·rw [if_neg c7] at H
    exact absurd H (by simp)

end Go.Proofs.Ytimjmndogalcbaa.PPackedDecodes

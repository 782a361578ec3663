-- written by this session's own printing program (myprint.sh)
import Derived.Test.YtaibfjipombilaaPCellPutsx0
import Derived.Test.YtaibfjipombilaaPCellPutsx1
import Derived.Test.YtaibfjipombilaaPCellPutsx3
namespace Go.Proofs.Ytaibfjipombilaa.PCellPuts
open Go.RowKit Go.Proofs.YtaibfjipombilaaW.PrintWords Go.Proofs.YtaibfjipombilaaW.PrintLast Go.Proofs.YtaibfjipombilaaW.PrintMore
attribute [local go_sem] max2_int min2_int max_two min_two max_three min_three max_four min_four   -- for this text's walks alone
set_option linter.unusedVariables false
set_option linter.unusedSimpArgs false

/-! ### cell_Get: function 19 -/
mutual
def cell_Get.j0 : Nat → Int → List Int → Int → Bool → Option (Bool × Int × List Int × Int × Int)
  | 0, _, _, _, _ => none
  | k + 1, x0, x1, x2, x14 => if x14 = true then (some (false, 0, ([] : List Int), 0, 1)) else (if x2 = (x1.length : Int) then (some (false, 0, ([] : List Int), 0, 2)) else (if 0 ≤ x2 then (if x2 < (x1.length : Int) then (if (rd x1 x2) > 1 then (some (false, 0, ([] : List Int), 0, 5)) else (if (rd x1 x2) = 0 then (some (true, 0, ([] : List Int), wrap64 (x2 + 1), 0)) else ((vint_Get.f k x1 (wrap64 (x2 + 1))).bind fun bt156 => (if bt156.2.2 = 0 then ((cell_Number.f x0).bind fun t159 => (if t159 = true then ((bits_Unfold.f bt156.1).bind fun t160 => ((cell_holds.f x0 t160).bind fun t161 => (cell_Get.j1 k x0 x1 bt156.1 bt156.2.1 (!t161)))) else (cell_Get.j1 k x0 x1 bt156.1 bt156.2.1 false))) else (some (false, 0, ([] : List Int), 0, bt156.2.2)))))) else (none)) else (none)))
def cell_Get.j1 : Nat → Int → List Int → Int → Int → Bool → Option (Bool × Int × List Int × Int × Int)
  | 0, _, _, _, _, _ => none
  | k + 1, x0, x1, x9, x10, x64 => if x64 = true then (some (false, 0, ([] : List Int), 0, 52)) else ((cell_Number.f x0).bind fun t162 => (if t162 = true then ((bits_Unfold.f x9).bind fun t163 => (some (false, t163, ([] : List Int), x10, 0))) else (if x9 > 200 then (some (false, 0, ([] : List Int), 0, 4)) else (if (wrap64 (x9)) > (wrap64 ((x1.length : Int) - x10)) then (some (false, 0, ([] : List Int), 0, 2)) else (if 0 ≤ x10 then (if x10 ≤ (wrap64 (x10 + (wrap64 (x9)))) then (if (wrap64 (x10 + (wrap64 (x9)))) ≤ (x1.length : Int) then ((bytes_Clone.f ((x1.take ((wrap64 (x10 + (wrap64 (x9)))) : Int).toNat).drop (x10 : Int).toNat)).bind fun t165 => ((cell_text.f x0 t165).bind fun t168 => (if t168 = 0 then (some (false, 0, t165, wrap64 (x10 + (wrap64 (x9))), 0)) else (some (false, 0, ([] : List Int), 0, t168))))) else (none)) else (none)) else (none))))))
end
def cell_Get.f (k : Nat) (a0 : Int) (l1 : List Int) (a2 : Int) : Option (Bool × Int × List Int × Int × Int) := (cell_known.f a0).bind fun t153 => (if t153 = true then (if a2 < 0 then (cell_Get.j0 k a0 l1 a2 true) else (cell_Get.j0 k a0 l1 a2 (decide (a2 > (l1.length : Int))))) else (cell_Get.j0 k a0 l1 a2 true))
theorem cell_Get.mono_l : ∀ k, (∀ y0 y1 y2 y3, LeO (cell_Get.j0 k y0 y1 y2 y3) (cell_Get.j0 (k + 1) y0 y1 y2 y3)) ∧ (∀ y0 y1 y2 y3 y4, LeO (cell_Get.j1 k y0 y1 y2 y3 y4) (cell_Get.j1 (k + 1) y0 y1 y2 y3 y4))
  | 0 => ⟨fun _ _ _ _ r h => by simp [cell_Get.j0] at h, fun _ _ _ _ _ r h => by simp [cell_Get.j1] at h⟩
  | k + 1 => by
    obtain ⟨ih0, ih1⟩ := cell_Get.mono_l k
    refine ⟨?_, ?_⟩
    · intro y0 y1 y2 y3
      unfold cell_Get.j0
      repeat' first
      | (with_reducible exact ih0 _ _ _ _)
      | (with_reducible exact ih1 _ _ _ _ _)
      | (with_reducible exact vint_Get.mono _ _ _)
      | (with_reducible exact LeO.refl _)
      | (with_reducible exact LeO.none _)
      | (with_reducible refine LeO.ite ?_ ?_)
      | (with_reducible refine LeO.bind ?_ (fun _ => ?_))
      | exact ih0 _ _ _ _
      | exact ih1 _ _ _ _ _
      | exact vint_Get.mono _ _ _
      | exact LeO.none _
      | refine LeO.ite ?_ ?_
      | refine LeO.bind ?_ (fun _ => ?_)
    · intro y0 y1 y2 y3 y4
      unfold cell_Get.j1
      repeat' first
      | (with_reducible exact ih0 _ _ _ _)
      | (with_reducible exact ih1 _ _ _ _ _)
      | (with_reducible exact vint_Get.mono _ _ _)
      | (with_reducible exact LeO.refl _)
      | (with_reducible exact LeO.none _)
      | (with_reducible refine LeO.ite ?_ ?_)
      | (with_reducible refine LeO.bind ?_ (fun _ => ?_))
      | exact ih0 _ _ _ _
      | exact ih1 _ _ _ _ _
      | exact vint_Get.mono _ _ _
      | exact LeO.none _
      | refine LeO.ite ?_ ?_
      | refine LeO.bind ?_ (fun _ => ?_)
theorem cell_Get.mono : ∀ a0 a1 a2 k, LeO (cell_Get.f k a0 a1 a2) (cell_Get.f (k + 1) a0 a1 a2) := by
  intro a0 a1 a2 k
  obtain ⟨ih0, ih1⟩ := cell_Get.mono_l k
  unfold cell_Get.f
  repeat' first
      | (with_reducible exact ih0 _ _ _ _)
      | (with_reducible exact ih1 _ _ _ _ _)
      | (with_reducible exact vint_Get.mono _ _ _)
      | (with_reducible exact LeO.refl _)
      | (with_reducible exact LeO.none _)
      | (with_reducible refine LeO.ite ?_ ?_)
      | (with_reducible refine LeO.bind ?_ (fun _ => ?_))
      | exact ih0 _ _ _ _
      | exact ih1 _ _ _ _ _
      | exact vint_Get.mono _ _ _
      | exact LeO.none _
      | refine LeO.ite ?_ ?_
      | refine LeO.bind ?_ (fun _ => ?_)
set_option maxHeartbeats 8000000 in
set_option maxRecDepth 100000 in
theorem cell_Get.calls (k : Nat) (a0 : Int) (A1 : Option Addr) (c1 : Nat) (l1 : List Int) (a2 : Int) (r1 : Bool) (r2 : Int) (r3 : List Int) (r4 : Int) (r5 : Int) (w : World) (hr1 : Kd.C (Kd.int .u8) w A1 l1.length l1) (hc1 : l1.length ≤ c1) (h : cell_Get.f k a0 l1 a2 = some (r1, r2, r3, r4, r5)) :
    Calls Try.prog 19 #[.int .i64 a0, .slice A1 l1.length c1, .int .i64 a2] w fun e w' => ∃ v2_ : Value, e = .returned (.tuple #[.agg #[.bool r1, .int .i64 r2, v2_], .int .i64 r4, .int .i64 r5]) ∧ Kd.R (Kd.int .u8) 5 w' w.heap.size (fun _ => True) v2_ r3 ∧ Below w.heap.size w w' := by
  have hu24 := Try.underlying24
  have HR1 := Aside0.mk hr1
  have HC1 := Aside0.mk hc1
  clear hr1 hc1
  have HB := Aside0.mk (Below.refl w.heap.size w)
  have H : ((cell_known.f a0).bind fun t153 => (if t153 = true then (if a2 < 0 then (cell_Get.j0 k a0 l1 a2 true) else (cell_Get.j0 k a0 l1 a2 (decide (a2 > (l1.length : Int))))) else (cell_Get.j0 k a0 l1 a2 true))) = some (r1, r2, r3, r4, r5) := h
  clear h
  have HC4 := Aside0.mk H
  clear H
  go_enter Try.func19, Try.ntmps19
  go_upto_region 1 with (first | ((with_reducible refine gate_dst (N := 6) rfl ?_); (try (refine gate_guard (by rfl) ?_; dsimp only)); refine box_event ?hg (N := 6) ?hd (cs := #[.bool false, .int .i64 0, .slice none 0 0]) (t := 24) ?hr ?_; (case hd => rfl); (case hg => rfl); (case hr => first | (go_simp; done) | (go_simp; rfl)); intro gb152 hg w5 hbox hb; have n0_ := Aside0.mk (below_step (by repeat (first | (with_reducible first | exact HB.out | apply below_alloc | apply pw_below_drewN | apply below_drew1) | exact HB.out)) hb); have n1_ := Aside0.mk (hbox); have n2_ := Aside0.mk ((by rw [hg]; exact (below_size (by repeat (first | (with_reducible first | exact HB.out | apply below_alloc | apply pw_below_drewN | apply below_drew1) | exact HB.out))) : w.heap.size ≤ gb152)); have n3_ := Aside0.mk ((by rw [hg]; exact (below_size (by repeat (first | (with_reducible first | exact HB.out | apply below_alloc | apply pw_below_drewN | apply below_drew1) | exact HB.out))) : w.heap.size ≤ gb152)); clear HB; have HB := n0_; have BK152 := n1_; have GW152 := n2_; have GE152 := n3_; clear n0_ n1_ n2_ n3_; clear hb hbox hg))
  (try simp only [Act.put, List.setIfInBounds_toArray, List.set_cons_zero, List.set_cons_succ])
  go_cut [14] (fun v14 wc => ∃ (kq : Nat) (x14_3 : Bool), v14 = .bool x14_3 ∧ Aside0 (cell_Get.j0 kq a0 l1 a2 x14_3 = some (r1, r2, r3, r4, r5)) ∧ Aside0 (kq ≤ k) ∧ Aside0 (wc.heap[gb152]? = some (.cells #[.bool false, .int .i64 0, (.slice none 0 0)] 24 (0, 0))) ∧ Aside0 (Below w.heap.size w wc))
  case first =>
    have H := HC4.out
    clear HC4
    replace H := Option.bind_eq_some_iff.mp H
    obtain ⟨t153, A60, H⟩ := H
    replace H : (if t153 = true then (if a2 < 0 then (cell_Get.j0 k a0 l1 a2 true) else (cell_Get.j0 k a0 l1 a2 (decide (a2 > (l1.length : Int))))) else (cell_Get.j0 k a0 l1 a2 true)) = some (r1, r2, r3, r4, r5) := H
    have A6 := Aside0.mk A60
    clear A60
    by_cases c7 : t153 = true
    · subst c7
      have H1 : (if a2 < 0 then (cell_Get.j0 k a0 l1 a2 true) else (cell_Get.j0 k a0 l1 a2 (decide (a2 > (l1.length : Int))))) = some (r1, r2, r3, r4, r5) := by rw [if_pos rfl] at H; exact H
      clear H
      have H := H1
      clear H1
      by_cases c8 : a2 < 0
      · rw [if_pos c8] at H
        have c8b0 : decide (a2 < 0) = true := decide_eq_true c8
        clear c8
        (first | rw [c8b0] | (simp only [i64_w, i32_w]; rw [c8b0]) | skip)
        have H' := Aside0.mk H
        clear H
        go_wp2_with (first | ((with_reducible refine gate_callee (f := 28) rfl ?_); refine goesL_ (some 16) rfl rfl Try.func28 (by kernel_rfl) rfl #[.int .i64 a0] rfl (by (try simp only [List.map_toArray, List.map_cons, List.map_nil]); first | done | rfl | (simp only [List.length_drop, List.length_take]; rfl)) ?_; (with_reducible refine (cell_known.calls a0 true _ A6.out).mono ?_); rintro e w' ⟨rfl, ⟨nd, rfl⟩⟩; refine ⟨_, rfl, ?_⟩))
        go_meet
        case rel => exact ⟨_, (true), (by first | rfl | (simp; done) | (simp [*]; done)), H', ⟨by first | omega | exact Nat.le_refl _⟩, ⟨by (with_reducible repeat (first | refine blk_drewN ?_ _ | refine blk_drew ?_ | refine blk_alloc ?_ _)); exact BK152.out⟩, ⟨by repeat (first | (with_reducible first | exact HB.out | apply below_alloc | apply pw_below_drewN | apply below_drew1 | refine below_set ?_ GE152.out) | exact HB.out)⟩⟩
      · rw [if_neg c8] at H
        have c8b0 : decide (a2 < 0) = false := decide_eq_false c8
        clear c8
        (first | rw [c8b0] | (simp only [i64_w, i32_w]; rw [c8b0]) | skip)
        have H' := Aside0.mk H
        clear H
        go_wp2_with (first | ((with_reducible refine gate_callee (f := 28) rfl ?_); refine goesL_ (some 16) rfl rfl Try.func28 (by kernel_rfl) rfl #[.int .i64 a0] rfl (by (try simp only [List.map_toArray, List.map_cons, List.map_nil]); first | done | rfl | (simp only [List.length_drop, List.length_take]; rfl)) ?_; (with_reducible refine (cell_known.calls a0 true _ A6.out).mono ?_); rintro e w' ⟨rfl, ⟨nd, rfl⟩⟩; refine ⟨_, rfl, ?_⟩))
        go_meet
        case rel => exact ⟨_, (decide (a2 > (l1.length : Int))), (by first | rfl | (simp; done) | (simp [*]; done)), H', ⟨by first | omega | exact Nat.le_refl _⟩, ⟨by (with_reducible repeat (first | refine blk_drewN ?_ _ | refine blk_drew ?_ | refine blk_alloc ?_ _)); exact BK152.out⟩, ⟨by repeat (first | (with_reducible first | exact HB.out | apply below_alloc | apply pw_below_drewN | apply below_drew1 | refine below_set ?_ GE152.out) | exact HB.out)⟩⟩
    · replace c7 := Bool.eq_false_iff.mpr c7
      subst c7
      have H1 : (cell_Get.j0 k a0 l1 a2 true) = some (r1, r2, r3, r4, r5) := by rw [if_neg (show ¬ (false = true) by decide)] at H; exact H
      clear H
      have H := H1
      clear H1
      have H' := Aside0.mk H
      clear H
      go_wp2_with (first | ((with_reducible refine gate_callee (f := 28) rfl ?_); refine goesL_ (some 16) rfl rfl Try.func28 (by kernel_rfl) rfl #[.int .i64 a0] rfl (by (try simp only [List.map_toArray, List.map_cons, List.map_nil]); first | done | rfl | (simp only [List.length_drop, List.length_take]; rfl)) ?_; (with_reducible refine (cell_known.calls a0 false _ A6.out).mono ?_); rintro e w' ⟨rfl, ⟨nd, rfl⟩⟩; refine ⟨_, rfl, ?_⟩))
      go_meet
      case rel => exact ⟨_, (true), (by first | rfl | (simp; done) | (simp [*]; done)), H', ⟨by first | omega | exact Nat.le_refl _⟩, ⟨by (with_reducible repeat (first | refine blk_drewN ?_ _ | refine blk_drew ?_ | refine blk_alloc ?_ _)); exact BK152.out⟩, ⟨by repeat (first | (with_reducible first | exact HB.out | apply below_alloc | apply pw_below_drewN | apply below_drew1 | refine below_set ?_ GE152.out) | exact HB.out)⟩⟩
  case rest =>
    clear HC4
    try clear c1
    try clear c2
    try clear p2
    try clear c7
    try clear c8
    try clear c8b0
    obtain ⟨kq, x14_3, rfl, HA, HJ3, BK152, HB⟩ := hcut
    cases kq with
    | zero => exact absurd HA.out (by simp [cell_Get.j0])
    | succ kj3 =>
      have H := HA.out
      clear HA
      simp only [cell_Get.j0] at H
      by_cases c9 : x14_3 = true
      · subst c9
        have H1 : (some (false, 0, ([] : List Int), 0, 1)) = some (r1, r2, r3, r4, r5) := by rw [if_pos rfl] at H; exact H
        clear H
        have H := H1
        clear H1
        simp only [Option.some.injEq, Prod.mk.injEq] at H
        obtain ⟨rfl, rfl, rfl, rfl, rfl⟩ := H
        have hcz10_0 : wc.cell? ⟨gb152, 0, none⟩ = some (.bool false) := (blk_cell BK152.out 0).trans rfl
        have hcz10_1 : wc.cell? ⟨gb152, 1, none⟩ = some (.int .i64 0) := (blk_cell BK152.out 1).trans rfl
        have hcz10_2 : wc.cell? ⟨gb152, 2, none⟩ = some (.slice none 0 0) := (blk_cell BK152.out 2).trans rfl
        have hfz10_0 := blk_frozen BK152.out 0
        have hfz10_1 := blk_frozen BK152.out 1
        have hfz10_2 := blk_frozen BK152.out 2
        go_wp2
        refine bodyPost_ret (results_ctt rfl _ _ gb152 24 #[.bool false, .int .i64 0, .slice none 0 0] (0, 0) _ rfl (by (with_reducible repeat (first | refine blk_drewN ?_ _ | refine blk_drew ?_ | refine blk_alloc ?_ _)); refine blk_put (cs := #[.bool false, .int .i64 0, .slice none 0 0]) ?_ 2 _ rfl; (with_reducible repeat (first | refine blk_drewN ?_ _ | refine blk_drew ?_ | refine blk_alloc ?_ _)); refine blk_put (cs := #[.bool false, .int .i64 0, .slice none 0 0]) ?_ 1 _ rfl; (with_reducible repeat (first | refine blk_drewN ?_ _ | refine blk_drew ?_ | refine blk_alloc ?_ _)); refine blk_put (cs := #[.bool false, .int .i64 0, .slice none 0 0]) ?_ 0 _ rfl; (with_reducible repeat (first | refine blk_drewN ?_ _ | refine blk_drew ?_ | refine blk_alloc ?_ _)); exact BK152.out) Try.underlying24 rfl (by kernel_rfl)) rfl ?_
        exact ⟨_, by first | rfl | (simp [errW_none, errW_some] <;> rfl) | (simp [*, errW_none, errW_some] <;> rfl), by first | exact Kd.R_nil _ _ _ _ _ | exact Kd.N_nil _ _ _ _ _ | exact Kd.V_nil _ _ _ _ _ | exact Kd.Q_nil _ _ _ _ _ | exact Kd.S_nil _ _ _ _ _, by repeat (first | (with_reducible first | exact HB.out | apply below_alloc | apply pw_below_drewN | apply below_drew1 | refine below_set ?_ GE152.out) | exact HB.out)⟩
      · replace c9 := Bool.eq_false_iff.mpr c9
        subst c9
        have H1 : (if a2 = (l1.length : Int) then (some (false, 0, ([] : List Int), 0, 2)) else (if 0 ≤ a2 then (if a2 < (l1.length : Int) then (if (rd l1 a2) > 1 then (some (false, 0, ([] : List Int), 0, 5)) else (if (rd l1 a2) = 0 then (some (true, 0, ([] : List Int), wrap64 (a2 + 1), 0)) else ((vint_Get.f kj3 l1 (wrap64 (a2 + 1))).bind fun bt156 => (if bt156.2.2 = 0 then ((cell_Number.f a0).bind fun t159 => (if t159 = true then ((bits_Unfold.f bt156.1).bind fun t160 => ((cell_holds.f a0 t160).bind fun t161 => (cell_Get.j1 kj3 a0 l1 bt156.1 bt156.2.1 (!t161)))) else (cell_Get.j1 kj3 a0 l1 bt156.1 bt156.2.1 false))) else (some (false, 0, ([] : List Int), 0, bt156.2.2)))))) else (none)) else (none))) = some (r1, r2, r3, r4, r5) := by rw [if_neg (show ¬ (false = true) by decide)] at H; exact H
        clear H
        have H := H1
        clear H1
        by_cases c11 : a2 = (l1.length : Int)
        · rw [if_pos c11] at H
          have c11b0 : (a2 == (l1.length : Int)) = true := beq_iff_eq.mpr c11
          have c11b1 : (a2 != (l1.length : Int)) = false := bne_eq_false_iff_eq.mpr c11
          clear c11
          simp only [Option.some.injEq, Prod.mk.injEq] at H
          obtain ⟨rfl, rfl, rfl, rfl, rfl⟩ := H
          have hcz12_0 : wc.cell? ⟨gb152, 0, none⟩ = some (.bool false) := (blk_cell BK152.out 0).trans rfl
          have hcz12_1 : wc.cell? ⟨gb152, 1, none⟩ = some (.int .i64 0) := (blk_cell BK152.out 1).trans rfl
          have hcz12_2 : wc.cell? ⟨gb152, 2, none⟩ = some (.slice none 0 0) := (blk_cell BK152.out 2).trans rfl
          have hfz12_0 := blk_frozen BK152.out 0
          have hfz12_1 := blk_frozen BK152.out 1
          have hfz12_2 := blk_frozen BK152.out 2
          go_wp2
          refine bodyPost_ret (results_ctt rfl _ _ gb152 24 #[.bool false, .int .i64 0, .slice none 0 0] (0, 0) _ rfl (by (with_reducible repeat (first | refine blk_drewN ?_ _ | refine blk_drew ?_ | refine blk_alloc ?_ _)); refine blk_put (cs := #[.bool false, .int .i64 0, .slice none 0 0]) ?_ 2 _ rfl; (with_reducible repeat (first | refine blk_drewN ?_ _ | refine blk_drew ?_ | refine blk_alloc ?_ _)); refine blk_put (cs := #[.bool false, .int .i64 0, .slice none 0 0]) ?_ 1 _ rfl; (with_reducible repeat (first | refine blk_drewN ?_ _ | refine blk_drew ?_ | refine blk_alloc ?_ _)); refine blk_put (cs := #[.bool false, .int .i64 0, .slice none 0 0]) ?_ 0 _ rfl; (with_reducible repeat (first | refine blk_drewN ?_ _ | refine blk_drew ?_ | refine blk_alloc ?_ _)); exact BK152.out) Try.underlying24 rfl (by kernel_rfl)) rfl ?_
          exact ⟨_, by first | rfl | (simp [errW_none, errW_some] <;> rfl) | (simp [*, errW_none, errW_some] <;> rfl), by first | exact Kd.R_nil _ _ _ _ _ | exact Kd.N_nil _ _ _ _ _ | exact Kd.V_nil _ _ _ _ _ | exact Kd.Q_nil _ _ _ _ _ | exact Kd.S_nil _ _ _ _ _, by repeat (first | (with_reducible first | exact HB.out | apply below_alloc | apply pw_below_drewN | apply below_drew1 | refine below_set ?_ GE152.out) | exact HB.out)⟩
        · rw [if_neg c11] at H
          have c11b0 : (a2 == (l1.length : Int)) = false := beq_eq_false_iff_ne.mpr c11
          have c11b1 : (a2 != (l1.length : Int)) = true := bne_iff_ne.mpr c11
          by_cases c13 : 0 ≤ a2
          · rw [if_pos c13] at H
            have c13b0 : decide (0 ≤ a2) = true := decide_eq_true c13
            clear c13
            by_cases c14 : a2 < (l1.length : Int)
            · rw [if_pos c14] at H
              have c14b0 : decide (a2 < (l1.length : Int)) = true := decide_eq_true c14
              clear c14
              by_cases c15 : (rd l1 a2) > 1
              · rw [if_pos c15] at H
                have c15b0 : decide (1 < (rd l1 a2)) = true := decide_eq_true c15
                clear c15
                simp only [Option.some.injEq, Prod.mk.injEq] at H
                obtain ⟨rfl, rfl, rfl, rfl, rfl⟩ := H
                have p154 : 0 ≤ (a2 : Int) := of_decide_eq_true (by first | (with_reducible assumption) | assumption)
                have q154 : a2 < (l1.length : Int) := of_decide_eq_true (by first | (with_reducible assumption) | assumption)
                obtain ⟨ad154, e154, hx154_0⟩ := Kd.at_int HR1.out a2 p154 q154
                cases e154
                replace hx154_0 := (HB.out.cell (World.block_lt_of_cell? w _ hx154_0)).trans hx154_0
                replace p154 := eq_true p154
                replace q154 := eq_true q154
                have hcz16_0 : wc.cell? ⟨gb152, 0, none⟩ = some (.bool false) := (blk_cell BK152.out 0).trans rfl
                have hcz16_1 : wc.cell? ⟨gb152, 1, none⟩ = some (.int .i64 0) := (blk_cell BK152.out 1).trans rfl
                have hcz16_2 : wc.cell? ⟨gb152, 2, none⟩ = some (.slice none 0 0) := (blk_cell BK152.out 2).trans rfl
                have hfz16_0 := blk_frozen BK152.out 0
                have hfz16_1 := blk_frozen BK152.out 1
                have hfz16_2 := blk_frozen BK152.out 2
                go_wp2
                refine bodyPost_ret (results_ctt rfl _ _ gb152 24 #[.bool false, .int .i64 0, .slice none 0 0] (0, 0) _ rfl (by (with_reducible repeat (first | refine blk_drewN ?_ _ | refine blk_drew ?_ | refine blk_alloc ?_ _)); refine blk_put (cs := #[.bool false, .int .i64 0, .slice none 0 0]) ?_ 2 _ rfl; (with_reducible repeat (first | refine blk_drewN ?_ _ | refine blk_drew ?_ | refine blk_alloc ?_ _)); refine blk_put (cs := #[.bool false, .int .i64 0, .slice none 0 0]) ?_ 1 _ rfl; (with_reducible repeat (first | refine blk_drewN ?_ _ | refine blk_drew ?_ | refine blk_alloc ?_ _)); refine blk_put (cs := #[.bool false, .int .i64 0, .slice none 0 0]) ?_ 0 _ rfl; (with_reducible repeat (first | refine blk_drewN ?_ _ | refine blk_drew ?_ | refine blk_alloc ?_ _)); exact BK152.out) Try.underlying24 rfl (by kernel_rfl)) rfl ?_
                exact ⟨_, by first | rfl | (simp [errW_none, errW_some] <;> rfl) | (simp [*, errW_none, errW_some] <;> rfl), by first | exact Kd.R_nil _ _ _ _ _ | exact Kd.N_nil _ _ _ _ _ | exact Kd.V_nil _ _ _ _ _ | exact Kd.Q_nil _ _ _ _ _ | exact Kd.S_nil _ _ _ _ _, by repeat (first | (with_reducible first | exact HB.out | apply below_alloc | apply pw_below_drewN | apply below_drew1 | refine below_set ?_ GE152.out) | exact HB.out)⟩
              · rw [if_neg c15] at H
                have c15b0 : decide (1 < (rd l1 a2)) = false := decide_eq_false c15
                clear c15
                by_cases c17 : (rd l1 a2) = 0
                · rw [if_pos c17] at H
                  have c17b0 : ((rd l1 a2) == 0) = true := beq_iff_eq.mpr c17
                  have c17b1 : ((rd l1 a2) != 0) = false := bne_eq_false_iff_eq.mpr c17
                  clear c17
                  simp only [Option.some.injEq, Prod.mk.injEq] at H
                  obtain ⟨rfl, rfl, rfl, rfl, rfl⟩ := H
                  have p154 : 0 ≤ (a2 : Int) := of_decide_eq_true (by first | (with_reducible assumption) | assumption)
                  have q154 : a2 < (l1.length : Int) := of_decide_eq_true (by first | (with_reducible assumption) | assumption)
                  obtain ⟨ad154, e154, hx154_0⟩ := Kd.at_int HR1.out a2 p154 q154
                  cases e154
                  replace hx154_0 := (HB.out.cell (World.block_lt_of_cell? w _ hx154_0)).trans hx154_0
                  replace p154 := eq_true p154
                  replace q154 := eq_true q154
                  have p155 : 0 ≤ (a2 : Int) := of_decide_eq_true (by first | (with_reducible assumption) | assumption)
                  have q155 : a2 < (l1.length : Int) := of_decide_eq_true (by first | (with_reducible assumption) | assumption)
                  obtain ⟨ad155, e155, hx155_0⟩ := Kd.at_int HR1.out a2 p155 q155
                  obtain rfl : ad154 = ad155 := (by injection e155)
                  replace hx155_0 := (HB.out.cell (World.block_lt_of_cell? w _ hx155_0)).trans hx155_0
                  replace p155 := eq_true p155
                  replace q155 := eq_true q155
                  have hcz18_0 : wc.cell? ⟨gb152, 0, none⟩ = some (.bool false) := (blk_cell BK152.out 0).trans rfl
                  have hcz18_1 : wc.cell? ⟨gb152, 1, none⟩ = some (.int .i64 0) := (blk_cell BK152.out 1).trans rfl
                  have hcz18_2 : wc.cell? ⟨gb152, 2, none⟩ = some (.slice none 0 0) := (blk_cell BK152.out 2).trans rfl
                  have hfz18_0 := blk_frozen BK152.out 0
                  have hfz18_1 := blk_frozen BK152.out 1
                  have hfz18_2 := blk_frozen BK152.out 2
                  go_wp2
                  refine bodyPost_ret (results_ctt rfl _ _ gb152 24 #[.bool true, .int .i64 0, .slice none 0 0] (0, 0) _ rfl (by (with_reducible repeat (first | refine blk_drewN ?_ _ | refine blk_drew ?_ | refine blk_alloc ?_ _)); refine blk_put (cs := #[.bool true, .int .i64 0, .slice none 0 0]) ?_ 2 _ rfl; (with_reducible repeat (first | refine blk_drewN ?_ _ | refine blk_drew ?_ | refine blk_alloc ?_ _)); refine blk_put (cs := #[.bool true, .int .i64 0, .slice none 0 0]) ?_ 1 _ rfl; (with_reducible repeat (first | refine blk_drewN ?_ _ | refine blk_drew ?_ | refine blk_alloc ?_ _)); refine blk_put (cs := #[.bool false, .int .i64 0, .slice none 0 0]) ?_ 0 _ rfl; (with_reducible repeat (first | refine blk_drewN ?_ _ | refine blk_drew ?_ | refine blk_alloc ?_ _)); exact BK152.out) Try.underlying24 rfl (by kernel_rfl)) rfl ?_
                  exact ⟨_, by first | rfl | (simp [errW_none, errW_some] <;> rfl) | (simp [*, errW_none, errW_some] <;> rfl), by first | exact Kd.R_nil _ _ _ _ _ | exact Kd.N_nil _ _ _ _ _ | exact Kd.V_nil _ _ _ _ _ | exact Kd.Q_nil _ _ _ _ _ | exact Kd.S_nil _ _ _ _ _, by repeat (first | (with_reducible first | exact HB.out | apply below_alloc | apply pw_below_drewN | apply below_drew1 | refine below_set ?_ GE152.out) | exact HB.out)⟩
                · rw [if_neg c17] at H
                  have c17b0 : ((rd l1 a2) == 0) = false := beq_eq_false_iff_ne.mpr c17
                  have c17b1 : ((rd l1 a2) != 0) = true := bne_iff_ne.mpr c17
                  replace H := Option.bind_eq_some_iff.mp H
                  obtain ⟨⟨t156, t157, t158⟩, A190, H⟩ := H
                  replace H : (if t158 = 0 then ((cell_Number.f a0).bind fun t159 => (if t159 = true then ((bits_Unfold.f t156).bind fun t160 => ((cell_holds.f a0 t160).bind fun t161 => (cell_Get.j1 kj3 a0 l1 t156 t157 (!t161)))) else (cell_Get.j1 kj3 a0 l1 t156 t157 false))) else (some (false, 0, ([] : List Int), 0, t158))) = some (r1, r2, r3, r4, r5) := H
                  have A19 := Aside0.mk A190
                  clear A190
                  by_cases c20 : t158 = 0
                  · rw [if_pos c20] at H
                    have c20b0 : (t158 == 0) = true := beq_iff_eq.mpr c20
                    have c20b1 : (t158 != 0) = false := bne_eq_false_iff_eq.mpr c20
                    clear c20
                    have HC21 := Aside0.mk H
                    clear H
                    have p154 : 0 ≤ (a2 : Int) := of_decide_eq_true (by first | (with_reducible assumption) | assumption)
                    have q154 : a2 < (l1.length : Int) := of_decide_eq_true (by first | (with_reducible assumption) | assumption)
                    obtain ⟨ad154, e154, hx154_0⟩ := Kd.at_int HR1.out a2 p154 q154
                    cases e154
                    replace hx154_0 := (HB.out.cell (World.block_lt_of_cell? w _ hx154_0)).trans hx154_0
                    replace p154 := eq_true p154
                    replace q154 := eq_true q154
                    have p155 : 0 ≤ (a2 : Int) := of_decide_eq_true (by first | (with_reducible assumption) | assumption)
                    have q155 : a2 < (l1.length : Int) := of_decide_eq_true (by first | (with_reducible assumption) | assumption)
                    obtain ⟨ad155, e155, hx155_0⟩ := Kd.at_int HR1.out a2 p155 q155
                    obtain rfl : ad154 = ad155 := (by injection e155)
                    replace hx155_0 := (HB.out.cell (World.block_lt_of_cell? w _ hx155_0)).trans hx155_0
                    replace p155 := eq_true p155
                    replace q155 := eq_true q155
                    go_upto_region 12 with (first | ((with_reducible refine gate_callee (f := 40) rfl ?_); refine goesL_ (some 55) rfl rfl Try.func40 (by kernel_rfl) rfl #[.slice (some ad154) l1.length c1, .int .i64 (wrap64 (a2 + 1))] rfl (by (try simp only [List.map_toArray, List.map_cons, List.map_nil]); first | done | rfl | (simp only [List.length_drop, List.length_take]; rfl)) ?_; (with_reducible refine (vint_Get.calls kj3 _ _ l1 (wrap64 (a2 + 1)) t156 t157 t158 _ ?side1 ?side2 A19.out).mono ?_); (case side1 => repeat (first | exact (Kd.C_below HR1.out HB.out) | (with_reducible refine Kd.C_alloc ?_ _) | (with_reducible refine Kd.C_drewN ?_ _) | (with_reducible refine Kd.C_drew ?_))); (case side2 => exact HC1.out); rintro e w' ⟨rfl, ⟨nd, rfl⟩⟩; refine ⟨_, rfl, ?_⟩))
                    (try simp only [Act.put, List.setIfInBounds_toArray, List.set_cons_zero, List.set_cons_succ])
                    go_cut [64] (fun v64 wc => ∃ (kq : Nat) (x64_20 : Bool), v64 = .bool x64_20 ∧ Aside0 (cell_Get.j1 kq a0 l1 t156 t157 x64_20 = some (r1, r2, r3, r4, r5)) ∧ Aside0 (kq ≤ kj3) ∧ Aside0 (wc.heap[gb152]? = some (.cells #[.bool false, .int .i64 0, (.slice none 0 0)] 24 (0, 0))) ∧ Aside0 (Below w.heap.size w wc))
                    case first =>
                      have H := HC21.out
                      clear HC21
                      replace H := Option.bind_eq_some_iff.mp H
                      obtain ⟨t159, A220, H⟩ := H
                      replace H : (if t159 = true then ((bits_Unfold.f t156).bind fun t160 => ((cell_holds.f a0 t160).bind fun t161 => (cell_Get.j1 kj3 a0 l1 t156 t157 (!t161)))) else (cell_Get.j1 kj3 a0 l1 t156 t157 false)) = some (r1, r2, r3, r4, r5) := H
                      have A22 := Aside0.mk A220
                      clear A220
                      by_cases c23 : t159 = true
                      · subst c23
                        have H1 : ((bits_Unfold.f t156).bind fun t160 => ((cell_holds.f a0 t160).bind fun t161 => (cell_Get.j1 kj3 a0 l1 t156 t157 (!t161)))) = some (r1, r2, r3, r4, r5) := by rw [if_pos rfl] at H; exact H
                        clear H
                        have H := H1
                        clear H1
                        replace H := Option.bind_eq_some_iff.mp H
                        obtain ⟨t160, A240, H⟩ := H
                        replace H : ((cell_holds.f a0 t160).bind fun t161 => (cell_Get.j1 kj3 a0 l1 t156 t157 (!t161))) = some (r1, r2, r3, r4, r5) := H
                        have A24 := Aside0.mk A240
                        clear A240
                        replace H := Option.bind_eq_some_iff.mp H
                        obtain ⟨t161, A250, H⟩ := H
                        replace H : (cell_Get.j1 kj3 a0 l1 t156 t157 (!t161)) = some (r1, r2, r3, r4, r5) := H
                        have A25 := Aside0.mk A250
                        clear A250
                        have H' := Aside0.mk H
                        clear H
                        go_wp2_with (first | ((with_reducible refine gate_callee (f := 13) rfl ?_); refine goesL_ (some 66) rfl rfl Try.func13 (by kernel_rfl) rfl #[.int .i64 a0] rfl (by (try simp only [List.map_toArray, List.map_cons, List.map_nil]); first | done | rfl | (simp only [List.length_drop, List.length_take]; rfl)) ?_; (with_reducible refine (cell_Number.calls a0 true _ A22.out).mono ?_); rintro e w' ⟨rfl, ⟨nd, rfl⟩⟩; refine ⟨_, rfl, ?_⟩) | (go_at_call 41; (with_reducible refine (bits_Unfold.calls t156 t160 _ A24.out).mono ?_); rintro e w' ⟨rfl, ⟨nd, rfl⟩⟩) | (go_at_call 30; (with_reducible refine (cell_holds.calls a0 t160 t161 _ A25.out).mono ?_); rintro e w' ⟨rfl, ⟨nd, rfl⟩⟩))
                        go_meet
                        case rel => exact ⟨_, (!t161), (by first | rfl | (simp; done) | (simp [*]; done)), H', ⟨by have := HJ3.out; first | omega | exact Nat.le_refl _⟩, ⟨by (with_reducible repeat (first | refine blk_drewN ?_ _ | refine blk_drew ?_ | refine blk_alloc ?_ _)); exact BK152.out⟩, ⟨by repeat (first | (with_reducible first | exact HB.out | apply below_alloc | apply pw_below_drewN | apply below_drew1 | refine below_set ?_ GE152.out) | exact HB.out)⟩⟩
                      · replace c23 := Bool.eq_false_iff.mpr c23
                        subst c23
                        have H1 : (cell_Get.j1 kj3 a0 l1 t156 t157 false) = some (r1, r2, r3, r4, r5) := by rw [if_neg (show ¬ (false = true) by decide)] at H; exact H
                        clear H
                        have H := H1
                        clear H1
                        have H' := Aside0.mk H
                        clear H
                        go_wp2_with (first | ((with_reducible refine gate_callee (f := 13) rfl ?_); refine goesL_ (some 66) rfl rfl Try.func13 (by kernel_rfl) rfl #[.int .i64 a0] rfl (by (try simp only [List.map_toArray, List.map_cons, List.map_nil]); first | done | rfl | (simp only [List.length_drop, List.length_take]; rfl)) ?_; (with_reducible refine (cell_Number.calls a0 false _ A22.out).mono ?_); rintro e w' ⟨rfl, ⟨nd, rfl⟩⟩; refine ⟨_, rfl, ?_⟩))
                        go_meet
                        case rel => exact ⟨_, (false), (by first | rfl | (simp; done) | (simp [*]; done)), H', ⟨by have := HJ3.out; first | omega | exact Nat.le_refl _⟩, ⟨by (with_reducible repeat (first | refine blk_drewN ?_ _ | refine blk_drew ?_ | refine blk_alloc ?_ _)); exact BK152.out⟩, ⟨by repeat (first | (with_reducible first | exact HB.out | apply below_alloc | apply pw_below_drewN | apply below_drew1 | refine below_set ?_ GE152.out) | exact HB.out)⟩⟩
                    case rest =>
                      clear HC21
                      try clear c1
                      try clear p1
                      try clear q1
                      try clear hx1
                      try clear c2
                      try clear p2
                      try clear c4
                      try clear p6
                      try clear c7
                      try clear c8
                      try clear c8b0
                      try clear c9
                      try clear c11
                      try clear c11b0
                      try clear c11b1
                      try clear c13
                      try clear c13b0
                      try clear c14
                      try clear c14b0
                      try clear c15
                      try clear c15b0
                      try clear p15
                      try clear q15
                      try clear hx15
                      try clear c17
                      try clear c17b0
                      try clear c17b1
                      try clear c19
                      try clear c20
                      try clear c20b0
                      try clear c20b1
                      try clear c23
                      try clear hcz10_0
                      try clear hcz10_1
                      try clear hcz10_2
                      try clear hcz12_0
                      try clear hcz12_1
                      try clear hcz12_2
                      try clear hcz16_0
                      try clear hcz16_1
                      try clear hcz16_2
                      try clear hcz18_0
                      try clear hcz18_1
                      try clear hcz18_2
                      try clear hfz10_0
                      try clear hfz10_1
                      try clear hfz10_2
                      try clear hfz12_0
                      try clear hfz12_1
                      try clear hfz12_2
                      try clear hfz16_0
                      try clear hfz16_1
                      try clear hfz16_2
                      try clear hfz18_0
                      try clear hfz18_1
                      try clear hfz18_2
                      try clear hx154_0
                      try clear hx155_0
                      try clear p154
                      try clear p155
                      try clear p2
                      try clear q154
                      try clear q155
                      obtain ⟨kq, x64_20, rfl, HA, HJ20, BK152, HB⟩ := hcut
                      cases kq with
                      | zero => exact absurd HA.out (by simp [cell_Get.j1])
                      | succ kj20 =>
                        have H := HA.out
                        clear HA
                        simp only [cell_Get.j1] at H
                        by_cases c26 : x64_20 = true
                        · subst c26
                          have H1 : (some (false, 0, ([] : List Int), 0, 52)) = some (r1, r2, r3, r4, r5) := by rw [if_pos rfl] at H; exact H
                          clear H
                          have H := H1
                          clear H1
                          simp only [Option.some.injEq, Prod.mk.injEq] at H
                          obtain ⟨rfl, rfl, rfl, rfl, rfl⟩ := H
                          have hcz27_0 : wc.cell? ⟨gb152, 0, none⟩ = some (.bool false) := (blk_cell BK152.out 0).trans rfl
                          have hcz27_1 : wc.cell? ⟨gb152, 1, none⟩ = some (.int .i64 0) := (blk_cell BK152.out 1).trans rfl
                          have hcz27_2 : wc.cell? ⟨gb152, 2, none⟩ = some (.slice none 0 0) := (blk_cell BK152.out 2).trans rfl
                          have hfz27_0 := blk_frozen BK152.out 0
                          have hfz27_1 := blk_frozen BK152.out 1
                          have hfz27_2 := blk_frozen BK152.out 2
                          go_wp2
                          refine bodyPost_ret (results_ctt rfl _ _ gb152 24 #[.bool false, .int .i64 0, .slice none 0 0] (0, 0) _ rfl (by (with_reducible repeat (first | refine blk_drewN ?_ _ | refine blk_drew ?_ | refine blk_alloc ?_ _)); refine blk_put (cs := #[.bool false, .int .i64 0, .slice none 0 0]) ?_ 2 _ rfl; (with_reducible repeat (first | refine blk_drewN ?_ _ | refine blk_drew ?_ | refine blk_alloc ?_ _)); refine blk_put (cs := #[.bool false, .int .i64 0, .slice none 0 0]) ?_ 1 _ rfl; (with_reducible repeat (first | refine blk_drewN ?_ _ | refine blk_drew ?_ | refine blk_alloc ?_ _)); refine blk_put (cs := #[.bool false, .int .i64 0, .slice none 0 0]) ?_ 0 _ rfl; (with_reducible repeat (first | refine blk_drewN ?_ _ | refine blk_drew ?_ | refine blk_alloc ?_ _)); exact BK152.out) Try.underlying24 rfl (by kernel_rfl)) rfl ?_
                          exact ⟨_, by first | rfl | (simp [errW_none, errW_some] <;> rfl) | (simp [*, errW_none, errW_some] <;> rfl), by first | exact Kd.R_nil _ _ _ _ _ | exact Kd.N_nil _ _ _ _ _ | exact Kd.V_nil _ _ _ _ _ | exact Kd.Q_nil _ _ _ _ _ | exact Kd.S_nil _ _ _ _ _, by repeat (first | (with_reducible first | exact HB.out | apply below_alloc | apply pw_below_drewN | apply below_drew1 | refine below_set ?_ GE152.out) | exact HB.out)⟩
                        · replace c26 := Bool.eq_false_iff.mpr c26
                          subst c26
                          have H1 : ((cell_Number.f a0).bind fun t162 => (if t162 = true then ((bits_Unfold.f t156).bind fun t163 => (some (false, t163, ([] : List Int), t157, 0))) else (if t156 > 200 then (some (false, 0, ([] : List Int), 0, 4)) else (if (wrap64 (t156)) > (wrap64 ((l1.length : Int) - t157)) then (some (false, 0, ([] : List Int), 0, 2)) else (if 0 ≤ t157 then (if t157 ≤ (wrap64 (t157 + (wrap64 (t156)))) then (if (wrap64 (t157 + (wrap64 (t156)))) ≤ (l1.length : Int) then ((bytes_Clone.f ((l1.take ((wrap64 (t157 + (wrap64 (t156)))) : Int).toNat).drop (t157 : Int).toNat)).bind fun t165 => ((cell_text.f a0 t165).bind fun t168 => (if t168 = 0 then (some (false, 0, t165, wrap64 (t157 + (wrap64 (t156))), 0)) else (some (false, 0, ([] : List Int), 0, t168))))) else (none)) else (none)) else (none)))))) = some (r1, r2, r3, r4, r5) := by rw [if_neg (show ¬ (false = true) by decide)] at H; exact H
                          clear H
                          have H := H1
                          clear H1
                          replace H := Option.bind_eq_some_iff.mp H
                          obtain ⟨t162, A280, H⟩ := H
                          replace H : (if t162 = true then ((bits_Unfold.f t156).bind fun t163 => (some (false, t163, ([] : List Int), t157, 0))) else (if t156 > 200 then (some (false, 0, ([] : List Int), 0, 4)) else (if (wrap64 (t156)) > (wrap64 ((l1.length : Int) - t157)) then (some (false, 0, ([] : List Int), 0, 2)) else (if 0 ≤ t157 then (if t157 ≤ (wrap64 (t157 + (wrap64 (t156)))) then (if (wrap64 (t157 + (wrap64 (t156)))) ≤ (l1.length : Int) then ((bytes_Clone.f ((l1.take ((wrap64 (t157 + (wrap64 (t156)))) : Int).toNat).drop (t157 : Int).toNat)).bind fun t165 => ((cell_text.f a0 t165).bind fun t168 => (if t168 = 0 then (some (false, 0, t165, wrap64 (t157 + (wrap64 (t156))), 0)) else (some (false, 0, ([] : List Int), 0, t168))))) else (none)) else (none)) else (none))))) = some (r1, r2, r3, r4, r5) := H
                          have A28 := Aside0.mk A280
                          clear A280
                          by_cases c29 : t162 = true
                          · subst c29
                            have H1 : ((bits_Unfold.f t156).bind fun t163 => (some (false, t163, ([] : List Int), t157, 0))) = some (r1, r2, r3, r4, r5) := by rw [if_pos rfl] at H; exact H
                            clear H
                            have H := H1
                            clear H1
                            replace H := Option.bind_eq_some_iff.mp H
                            obtain ⟨t163, A300, H⟩ := H
                            replace H : (some (false, t163, ([] : List Int), t157, 0)) = some (r1, r2, r3, r4, r5) := H
                            have A30 := Aside0.mk A300
                            clear A300
                            simp only [Option.some.injEq, Prod.mk.injEq] at H
                            obtain ⟨rfl, rfl, rfl, rfl, rfl⟩ := H
                            go_wp2_with (first | ((with_reducible refine gate_callee (f := 13) rfl ?_); refine goesL_ (some 77) rfl rfl Try.func13 (by kernel_rfl) rfl #[.int .i64 a0] rfl (by (try simp only [List.map_toArray, List.map_cons, List.map_nil]); first | done | rfl | (simp only [List.length_drop, List.length_take]; rfl)) ?_; (with_reducible refine (cell_Number.calls a0 true _ A28.out).mono ?_); rintro e w' ⟨rfl, ⟨nd, rfl⟩⟩; refine ⟨_, rfl, ?_⟩; (try (rw [drewN_self wc]; generalize hq_ : World.drewN wc _ = wc; have n0_ : Aside0 (wc.heap[gb152]? = some (.cells #[.bool false, .int .i64 0, .slice none 0 0] 24 (0, 0))) := ⟨by rw [← hq_]; exact (by (with_reducible repeat (first | refine blk_drewN ?_ _ | refine blk_drew ?_ | refine blk_alloc ?_ _)); exact BK152.out)⟩; have n1_ : Aside0 (Below w.heap.size w wc) := ⟨by rw [← hq_]; exact (by repeat (first | (with_reducible first | exact HB.out | apply below_alloc | apply pw_below_drewN | apply below_drew1 | refine below_set ?_ GE152.out) | exact HB.out))⟩; clear BK152 HB hq_; have BK152 := n0_; have HB := n1_; clear n0_ n1_))) | ((with_reducible refine gate_callee (f := 41) rfl ?_); refine goesL_ (some 79) rfl rfl Try.func41 (by kernel_rfl) rfl #[.int .u64 t156] rfl (by (try simp only [List.map_toArray, List.map_cons, List.map_nil]); first | done | rfl | (simp only [List.length_drop, List.length_take]; rfl)) ?_; (with_reducible refine (bits_Unfold.calls t156 t163 _ A30.out).mono ?_); rintro e w' ⟨rfl, ⟨nd, rfl⟩⟩; refine ⟨_, rfl, ?_⟩; (try (rw [drewN_self wc]; generalize hq_ : World.drewN wc _ = wc; have n0_ : Aside0 (wc.heap[gb152]? = some (.cells #[.bool false, .int .i64 0, .slice none 0 0] 24 (0, 0))) := ⟨by rw [← hq_]; exact (by (with_reducible repeat (first | refine blk_drewN ?_ _ | refine blk_drew ?_ | refine blk_alloc ?_ _)); exact BK152.out)⟩; have n1_ : Aside0 (Below w.heap.size w wc) := ⟨by rw [← hq_]; exact (by repeat (first | (with_reducible first | exact HB.out | apply below_alloc | apply pw_below_drewN | apply below_drew1 | refine below_set ?_ GE152.out) | exact HB.out))⟩; clear BK152 HB hq_; have BK152 := n0_; have HB := n1_; clear n0_ n1_)); have hcz31_0 : wc.cell? ⟨gb152, 0, none⟩ = some (.bool false) := (blk_cell BK152.out 0).trans rfl; have hcz31_1 : wc.cell? ⟨gb152, 1, none⟩ = some (.int .i64 0) := (blk_cell BK152.out 1).trans rfl; have hcz31_2 : wc.cell? ⟨gb152, 2, none⟩ = some (.slice none 0 0) := (blk_cell BK152.out 2).trans rfl; have hfz31_0 := blk_frozen BK152.out 0; have hfz31_1 := blk_frozen BK152.out 1; have hfz31_2 := blk_frozen BK152.out 2))
                            refine bodyPost_ret (results_ctt rfl _ _ gb152 24 #[.bool false, .int .i64 t163, .slice none 0 0] (0, 0) _ rfl (by (with_reducible repeat (first | refine blk_drewN ?_ _ | refine blk_drew ?_ | refine blk_alloc ?_ _)); refine blk_put (cs := #[.bool false, .int .i64 t163, .slice none 0 0]) ?_ 2 _ rfl; (with_reducible repeat (first | refine blk_drewN ?_ _ | refine blk_drew ?_ | refine blk_alloc ?_ _)); refine blk_put (cs := #[.bool false, .int .i64 0, .slice none 0 0]) ?_ 1 _ rfl; (with_reducible repeat (first | refine blk_drewN ?_ _ | refine blk_drew ?_ | refine blk_alloc ?_ _)); refine blk_put (cs := #[.bool false, .int .i64 0, .slice none 0 0]) ?_ 0 _ rfl; (with_reducible repeat (first | refine blk_drewN ?_ _ | refine blk_drew ?_ | refine blk_alloc ?_ _)); exact BK152.out) Try.underlying24 rfl (by kernel_rfl)) rfl ?_
                            exact ⟨_, by first | rfl | (simp [errW_none, errW_some] <;> rfl) | (simp [*, errW_none, errW_some] <;> rfl), by first | exact Kd.R_nil _ _ _ _ _ | exact Kd.N_nil _ _ _ _ _ | exact Kd.V_nil _ _ _ _ _ | exact Kd.Q_nil _ _ _ _ _ | exact Kd.S_nil _ _ _ _ _, by repeat (first | (with_reducible first | exact HB.out | apply below_alloc | apply pw_below_drewN | apply below_drew1 | refine below_set ?_ GE152.out) | exact HB.out)⟩
                          · replace c29 := Bool.eq_false_iff.mpr c29
                            subst c29
                            have H1 : (if t156 > 200 then (some (false, 0, ([] : List Int), 0, 4)) else (if (wrap64 (t156)) > (wrap64 ((l1.length : Int) - t157)) then (some (false, 0, ([] : List Int), 0, 2)) else (if 0 ≤ t157 then (if t157 ≤ (wrap64 (t157 + (wrap64 (t156)))) then (if (wrap64 (t157 + (wrap64 (t156)))) ≤ (l1.length : Int) then ((bytes_Clone.f ((l1.take ((wrap64 (t157 + (wrap64 (t156)))) : Int).toNat).drop (t157 : Int).toNat)).bind fun t165 => ((cell_text.f a0 t165).bind fun t168 => (if t168 = 0 then (some (false, 0, t165, wrap64 (t157 + (wrap64 (t156))), 0)) else (some (false, 0, ([] : List Int), 0, t168))))) else (none)) else (none)) else (none)))) = some (r1, r2, r3, r4, r5) := by rw [if_neg (show ¬ (false = true) by decide)] at H; exact H
                            clear H
                            have H := H1
                            clear H1
                            by_cases c32 : t156 > 200
                            · rw [if_pos c32] at H
                              have c32b0 : decide (200 < t156) = true := decide_eq_true c32
                              clear c32
                              simp only [Option.some.injEq, Prod.mk.injEq] at H
                              obtain ⟨rfl, rfl, rfl, rfl, rfl⟩ := H
                              go_wp2_with (first | ((with_reducible refine gate_callee (f := 13) rfl ?_); refine goesL_ (some 77) rfl rfl Try.func13 (by kernel_rfl) rfl #[.int .i64 a0] rfl (by (try simp only [List.map_toArray, List.map_cons, List.map_nil]); first | done | rfl | (simp only [List.length_drop, List.length_take]; rfl)) ?_; (with_reducible refine (cell_Number.calls a0 false _ A28.out).mono ?_); rintro e w' ⟨rfl, ⟨nd, rfl⟩⟩; refine ⟨_, rfl, ?_⟩; (try (rw [drewN_self wc]; generalize hq_ : World.drewN wc _ = wc; have n0_ : Aside0 (wc.heap[gb152]? = some (.cells #[.bool false, .int .i64 0, .slice none 0 0] 24 (0, 0))) := ⟨by rw [← hq_]; exact (by (with_reducible repeat (first | refine blk_drewN ?_ _ | refine blk_drew ?_ | refine blk_alloc ?_ _)); exact BK152.out)⟩; have n1_ : Aside0 (Below w.heap.size w wc) := ⟨by rw [← hq_]; exact (by repeat (first | (with_reducible first | exact HB.out | apply below_alloc | apply pw_below_drewN | apply below_drew1 | refine below_set ?_ GE152.out) | exact HB.out))⟩; clear BK152 HB hq_; have BK152 := n0_; have HB := n1_; clear n0_ n1_)); have hcz33_0 : wc.cell? ⟨gb152, 0, none⟩ = some (.bool false) := (blk_cell BK152.out 0).trans rfl; have hcz33_1 : wc.cell? ⟨gb152, 1, none⟩ = some (.int .i64 0) := (blk_cell BK152.out 1).trans rfl; have hcz33_2 : wc.cell? ⟨gb152, 2, none⟩ = some (.slice none 0 0) := (blk_cell BK152.out 2).trans rfl; have hfz33_0 := blk_frozen BK152.out 0; have hfz33_1 := blk_frozen BK152.out 1; have hfz33_2 := blk_frozen BK152.out 2))
                              refine bodyPost_ret (results_ctt rfl _ _ gb152 24 #[.bool false, .int .i64 0, .slice none 0 0] (0, 0) _ rfl (by (with_reducible repeat (first | refine blk_drewN ?_ _ | refine blk_drew ?_ | refine blk_alloc ?_ _)); refine blk_put (cs := #[.bool false, .int .i64 0, .slice none 0 0]) ?_ 2 _ rfl; (with_reducible repeat (first | refine blk_drewN ?_ _ | refine blk_drew ?_ | refine blk_alloc ?_ _)); refine blk_put (cs := #[.bool false, .int .i64 0, .slice none 0 0]) ?_ 1 _ rfl; (with_reducible repeat (first | refine blk_drewN ?_ _ | refine blk_drew ?_ | refine blk_alloc ?_ _)); refine blk_put (cs := #[.bool false, .int .i64 0, .slice none 0 0]) ?_ 0 _ rfl; (with_reducible repeat (first | refine blk_drewN ?_ _ | refine blk_drew ?_ | refine blk_alloc ?_ _)); exact BK152.out) Try.underlying24 rfl (by kernel_rfl)) rfl ?_
                              exact ⟨_, by first | rfl | (simp [errW_none, errW_some] <;> rfl) | (simp [*, errW_none, errW_some] <;> rfl), by first | exact Kd.R_nil _ _ _ _ _ | exact Kd.N_nil _ _ _ _ _ | exact Kd.V_nil _ _ _ _ _ | exact Kd.Q_nil _ _ _ _ _ | exact Kd.S_nil _ _ _ _ _, by repeat (first | (with_reducible first | exact HB.out | apply below_alloc | apply pw_below_drewN | apply below_drew1 | refine below_set ?_ GE152.out) | exact HB.out)⟩
                            · rw [if_neg c32] at H
                              have c32b0 : decide (200 < t156) = false := decide_eq_false c32
                              clear c32
                              by_cases c34 : (wrap64 (t156)) > (wrap64 ((l1.length : Int) - t157))
                              · rw [if_pos c34] at H
                                have c34b0 : decide ((wrap64 ((l1.length : Int) - t157)) < (wrap64 (t156))) = true := decide_eq_true c34
                                clear c34
                                simp only [Option.some.injEq, Prod.mk.injEq] at H
                                obtain ⟨rfl, rfl, rfl, rfl, rfl⟩ := H
                                go_wp2_with (first | ((with_reducible refine gate_callee (f := 13) rfl ?_); refine goesL_ (some 77) rfl rfl Try.func13 (by kernel_rfl) rfl #[.int .i64 a0] rfl (by (try simp only [List.map_toArray, List.map_cons, List.map_nil]); first | done | rfl | (simp only [List.length_drop, List.length_take]; rfl)) ?_; (with_reducible refine (cell_Number.calls a0 false _ A28.out).mono ?_); rintro e w' ⟨rfl, ⟨nd, rfl⟩⟩; refine ⟨_, rfl, ?_⟩; (try (rw [drewN_self wc]; generalize hq_ : World.drewN wc _ = wc; have n0_ : Aside0 (wc.heap[gb152]? = some (.cells #[.bool false, .int .i64 0, .slice none 0 0] 24 (0, 0))) := ⟨by rw [← hq_]; exact (by (with_reducible repeat (first | refine blk_drewN ?_ _ | refine blk_drew ?_ | refine blk_alloc ?_ _)); exact BK152.out)⟩; have n1_ : Aside0 (Below w.heap.size w wc) := ⟨by rw [← hq_]; exact (by repeat (first | (with_reducible first | exact HB.out | apply below_alloc | apply pw_below_drewN | apply below_drew1 | refine below_set ?_ GE152.out) | exact HB.out))⟩; clear BK152 HB hq_; have BK152 := n0_; have HB := n1_; clear n0_ n1_)); have hcz35_0 : wc.cell? ⟨gb152, 0, none⟩ = some (.bool false) := (blk_cell BK152.out 0).trans rfl; have hcz35_1 : wc.cell? ⟨gb152, 1, none⟩ = some (.int .i64 0) := (blk_cell BK152.out 1).trans rfl; have hcz35_2 : wc.cell? ⟨gb152, 2, none⟩ = some (.slice none 0 0) := (blk_cell BK152.out 2).trans rfl; have hfz35_0 := blk_frozen BK152.out 0; have hfz35_1 := blk_frozen BK152.out 1; have hfz35_2 := blk_frozen BK152.out 2))
                                refine bodyPost_ret (results_ctt rfl _ _ gb152 24 #[.bool false, .int .i64 0, .slice none 0 0] (0, 0) _ rfl (by (with_reducible repeat (first | refine blk_drewN ?_ _ | refine blk_drew ?_ | refine blk_alloc ?_ _)); refine blk_put (cs := #[.bool false, .int .i64 0, .slice none 0 0]) ?_ 2 _ rfl; (with_reducible repeat (first | refine blk_drewN ?_ _ | refine blk_drew ?_ | refine blk_alloc ?_ _)); refine blk_put (cs := #[.bool false, .int .i64 0, .slice none 0 0]) ?_ 1 _ rfl; (with_reducible repeat (first | refine blk_drewN ?_ _ | refine blk_drew ?_ | refine blk_alloc ?_ _)); refine blk_put (cs := #[.bool false, .int .i64 0, .slice none 0 0]) ?_ 0 _ rfl; (with_reducible repeat (first | refine blk_drewN ?_ _ | refine blk_drew ?_ | refine blk_alloc ?_ _)); exact BK152.out) Try.underlying24 rfl (by kernel_rfl)) rfl ?_
                                exact ⟨_, by first | rfl | (simp [errW_none, errW_some] <;> rfl) | (simp [*, errW_none, errW_some] <;> rfl), by first | exact Kd.R_nil _ _ _ _ _ | exact Kd.N_nil _ _ _ _ _ | exact Kd.V_nil _ _ _ _ _ | exact Kd.Q_nil _ _ _ _ _ | exact Kd.S_nil _ _ _ _ _, by repeat (first | (with_reducible first | exact HB.out | apply below_alloc | apply pw_below_drewN | apply below_drew1 | refine below_set ?_ GE152.out) | exact HB.out)⟩
                              · rw [if_neg c34] at H
                                have c34b0 : decide ((wrap64 ((l1.length : Int) - t157)) < (wrap64 (t156))) = false := decide_eq_false c34
                                clear c34
                                by_cases c36 : 0 ≤ t157
                                · rw [if_pos c36] at H
                                  have c36b0 := eq_true c36
                                  have c36b1 : decide (0 ≤ t157) = true := decide_eq_true c36
                                  clear c36
                                  by_cases c37 : t157 ≤ (wrap64 (t157 + (wrap64 (t156))))
                                  · rw [if_pos c37] at H
                                    have c37b0 := eq_true c37
                                    have c37b1 : decide (t157 ≤ (wrap64 (t157 + (wrap64 (t156))))) = true := decide_eq_true c37
                                    by_cases c38 : (wrap64 (t157 + (wrap64 (t156)))) ≤ (l1.length : Int)
                                    · rw [if_pos c38] at H
                                      have c38b0 := eq_true c38
                                      have c38b1 : decide ((wrap64 (t157 + (wrap64 (t156)))) ≤ (l1.length : Int)) = true := decide_eq_true c38
                                      replace H := Option.bind_eq_some_iff.mp H
                                      obtain ⟨t165, A390, H⟩ := H
                                      replace H : ((cell_text.f a0 t165).bind fun t168 => (if t168 = 0 then (some (false, 0, t165, wrap64 (t157 + (wrap64 (t156))), 0)) else (some (false, 0, ([] : List Int), 0, t168)))) = some (r1, r2, r3, r4, r5) := H
                                      have A39 := Aside0.mk A390
                                      clear A390
                                      replace H := Option.bind_eq_some_iff.mp H
                                      obtain ⟨t168, A400, H⟩ := H
                                      replace H : (if t168 = 0 then (some (false, 0, t165, wrap64 (t157 + (wrap64 (t156))), 0)) else (some (false, 0, ([] : List Int), 0, t168))) = some (r1, r2, r3, r4, r5) := H
                                      have A40 := Aside0.mk A400
                                      clear A400
                                      by_cases c41 : t168 = 0
                                      · rw [if_pos c41] at H
                                        have c41b0 : (t168 == 0) = true := beq_iff_eq.mpr c41
                                        have c41b1 : (t168 != 0) = false := bne_eq_false_iff_eq.mpr c41
                                        clear c41
                                        simp only [Option.some.injEq, Prod.mk.injEq] at H
                                        obtain ⟨rfl, rfl, rfl, rfl, rfl⟩ := H
                                        go_wp2_with (first | ((with_reducible refine gate_callee (f := 13) rfl ?_); refine goesL_ (some 77) rfl rfl Try.func13 (by kernel_rfl) rfl #[.int .i64 a0] rfl (by (try simp only [List.map_toArray, List.map_cons, List.map_nil]); first | done | rfl | (simp only [List.length_drop, List.length_take]; rfl)) ?_; (with_reducible refine (cell_Number.calls a0 false _ A28.out).mono ?_); rintro e w' ⟨rfl, ⟨nd, rfl⟩⟩; refine ⟨_, rfl, ?_⟩; (try (rw [drewN_self wc]; generalize hq_ : World.drewN wc _ = wc; have n0_ : Aside0 (wc.heap[gb152]? = some (.cells #[.bool false, .int .i64 0, .slice none 0 0] 24 (0, 0))) := ⟨by rw [← hq_]; exact (by (with_reducible repeat (first | refine blk_drewN ?_ _ | refine blk_drew ?_ | refine blk_alloc ?_ _)); exact BK152.out)⟩; have n1_ : Aside0 (Below w.heap.size w wc) := ⟨by rw [← hq_]; exact (by repeat (first | (with_reducible first | exact HB.out | apply below_alloc | apply pw_below_drewN | apply below_drew1 | refine below_set ?_ GE152.out) | exact HB.out))⟩; clear BK152 HB hq_; have BK152 := n0_; have HB := n1_; clear n0_ n1_)); obtain ⟨i042, hi042, _, hsz42, _⟩ := info_parts info5; obtain ⟨A42, hcut42, hA42, hC42⟩ := print_mid_of (P := Try.prog) (Value.int .u8) 0 22 5 .i64 .i64 Try.underlying22 hi042 hsz42 (some ad154) c1 l1 t157 (wrap64 (t157 + (wrap64 (t156)))) (of_decide_eq_true (by first | (with_reducible assumption) | assumption)) (by first | omega | exact of_decide_eq_true (by first | (with_reducible assumption) | assumption)) (of_decide_eq_true (by first | (with_reducible assumption) | assumption)) HC1.out; have HR164 := Aside0.mk (Kd.C_of_reads (h1 := fun _ => rfl) (hA42 _ (Kd.reads_of_C HR1.out))); have HC164 := Aside0.mk hC42; clear hA42 hC42 hi042 hsz42) | ((with_reducible refine gate_callee (f := 42) rfl ?_); refine goesL_ (some 102) rfl rfl Try.func42 (by kernel_rfl) rfl #[.slice A42 ((l1.take ((wrap64 (t157 + (wrap64 (t156)))) : Int).toNat).drop (t157 : Int).toNat).length (c1 - t157.toNat)] rfl (by (try simp only [List.map_toArray, List.map_cons, List.map_nil]); first | done | (rw [show ((l1.take ((wrap64 (t157 + (wrap64 (t156)))) : Int).toNat).drop (t157 : Int).toNat).length = ((wrap64 (t157 + (wrap64 (t156)))).toNat - t157.toNat) from (by rw [List.length_drop, List.length_take]; have h_ : ((wrap64 (t157 + (wrap64 (t156)))) : Int) ≤ (l1.length : Int) := of_decide_eq_true (by first | (with_reducible assumption) | assumption); omega)] <;> rfl) | rfl | (simp only [List.length_drop, List.length_take]; rfl)) ?_; (with_reducible refine (bytes_Clone.calls _ _ ((l1.take ((wrap64 (t157 + (wrap64 (t156)))) : Int).toNat).drop (t157 : Int).toNat) t165 _ ?side1 ?side2 A39.out).mono ?_); (case side1 => repeat (first | exact (Kd.C_below HR164.out HB.out) | (with_reducible refine Kd.C_alloc ?_ _) | (with_reducible refine Kd.C_drewN ?_ _) | (with_reducible refine Kd.C_drew ?_))); (case side2 => exact HC164.out); rintro e w43 ⟨v166, rfl, ho0, hb⟩; refine ⟨_, rfl, ?_⟩; have n0_ := Aside0.mk (Kd.R_lower ho0 (below_size (by repeat (first | (with_reducible first | exact HB.out | apply below_alloc | apply pw_below_drewN | apply below_drew1 | refine below_set ?_ GE152.out) | exact HB.out)))); have n1_ := Aside0.mk (blk_below (g := gb152) (o := .cells #[.bool false, .int .i64 0, .slice none 0 0] 24 (0, 0)) (by (with_reducible repeat (first | refine blk_drewN ?_ _ | refine blk_drew ?_ | refine blk_alloc ?_ _)); exact BK152.out) hb); have n2_ := Aside0.mk (below_step (by repeat (first | (with_reducible first | exact HB.out | apply below_alloc | apply pw_below_drewN | apply below_drew1 | refine below_set ?_ GE152.out) | exact HB.out)) hb); clear BK152; clear HB; have HO167 := n0_; have BK152 := n1_; have HB := n2_; clear n0_ n1_ n2_; (try clear hb); (try clear hb2); (try clear hk); (try clear hi); (try clear ho0); obtain ⟨Ao44, co44, eo44⟩ := Kd.R_slice HO167.out; subst eo44) | ((with_reducible refine gate_callee (f := 29) rfl ?_); refine goesL_ (some 105) rfl rfl Try.func29 (by kernel_rfl) rfl #[.int .i64 a0, .slice Ao44 t165.length co44] rfl (by (try simp only [List.map_toArray, List.map_cons, List.map_nil]); first | done | rfl | (simp only [List.length_drop, List.length_take]; rfl)) ?_; (with_reducible refine (cell_text.calls a0 _ _ t165 t168 _ ?side1 ?side2 A40.out).mono ?_); (case side1 => repeat (first | exact (Kd.R_reads' HO167.out).2.2 | (with_reducible refine Kd.C_alloc ?_ _) | (with_reducible refine Kd.C_drewN ?_ _) | (with_reducible refine Kd.C_drew ?_))); (case side2 => exact (Kd.R_reads' HO167.out).2.1); rintro e w' ⟨rfl, ⟨nd, rfl⟩⟩; refine ⟨_, rfl, ?_⟩; (try (rw [drewN_self w43]; generalize hq_ : World.drewN w43 _ = w43; have n0_ : Aside0 (Kd.R (Kd.int .u8) 5 w43 w.heap.size (fun _ => True) (.slice Ao44 t165.length co44) t165) := ⟨by rw [← hq_]; exact (by (with_reducible repeat (first | apply Kd.R_alloc | apply Kd.R_drewN | apply Kd.R_drew)); exact HO167.out)⟩; have n1_ : Aside0 (w43.heap[gb152]? = some (.cells #[.bool false, .int .i64 0, .slice none 0 0] 24 (0, 0))) := ⟨by rw [← hq_]; exact (by (with_reducible repeat (first | refine blk_drewN ?_ _ | refine blk_drew ?_ | refine blk_alloc ?_ _)); exact BK152.out)⟩; have n2_ : Aside0 (Below w.heap.size w w43) := ⟨by rw [← hq_]; exact (by repeat (first | (with_reducible first | exact HB.out | apply below_alloc | apply pw_below_drewN | apply below_drew1 | refine below_set ?_ GE152.out) | exact HB.out))⟩; clear HO167 BK152 HB hq_; have HO167 := n0_; have BK152 := n1_; have HB := n2_; clear n0_ n1_ n2_)); have hcz45_0 : w43.cell? ⟨gb152, 0, none⟩ = some (.bool false) := (blk_cell BK152.out 0).trans rfl; have hcz45_1 : w43.cell? ⟨gb152, 1, none⟩ = some (.int .i64 0) := (blk_cell BK152.out 1).trans rfl; have hcz45_2 : w43.cell? ⟨gb152, 2, none⟩ = some (.slice none 0 0) := (blk_cell BK152.out 2).trans rfl; have hfz45_0 := blk_frozen BK152.out 0; have hfz45_1 := blk_frozen BK152.out 1; have hfz45_2 := blk_frozen BK152.out 2))
                                        refine bodyPost_ret (results_ctt rfl _ _ gb152 24 #[.bool false, .int .i64 0, .slice Ao44 t165.length co44] (0, 0) _ rfl (by (with_reducible repeat (first | refine blk_drewN ?_ _ | refine blk_drew ?_ | refine blk_alloc ?_ _)); refine blk_put (cs := #[.bool false, .int .i64 0, .slice none 0 0]) ?_ 2 _ rfl; (with_reducible repeat (first | refine blk_drewN ?_ _ | refine blk_drew ?_ | refine blk_alloc ?_ _)); refine blk_put (cs := #[.bool false, .int .i64 0, .slice none 0 0]) ?_ 1 _ rfl; (with_reducible repeat (first | refine blk_drewN ?_ _ | refine blk_drew ?_ | refine blk_alloc ?_ _)); refine blk_put (cs := #[.bool false, .int .i64 0, .slice none 0 0]) ?_ 0 _ rfl; (with_reducible repeat (first | refine blk_drewN ?_ _ | refine blk_drew ?_ | refine blk_alloc ?_ _)); exact BK152.out) Try.underlying24 rfl (by kernel_rfl)) rfl ?_
                                        exact ⟨_, by first | rfl | (simp [errW_none, errW_some] <;> rfl) | (simp [*, errW_none, errW_some] <;> rfl), by (with_reducible repeat (first | apply Kd.R_alloc | apply Kd.R_drewN | apply Kd.R_drew)); exact Kd.R_mono (Kd.R_far (p := ⟨gb152, 2, none⟩) (Kd.R_far (p := ⟨gb152, 1, none⟩) (Kd.R_far (p := ⟨gb152, 0, none⟩) (Kd.R_types HO167.out BK152.out (by decide)) (fun _ hk => hk.2) (.bool false)) (fun _ hk => hk.2) (.int .i64 0)) (fun _ hk => hk.2) (.slice Ao44 t165.length co44)) (fun _ hk => trivial), by repeat (first | (with_reducible first | exact HB.out | apply below_alloc | apply pw_below_drewN | apply below_drew1 | refine below_set ?_ GE152.out) | exact HB.out)⟩
                                      · rw [if_neg c41] at H
                                        have c41b0 : (t168 == 0) = false := beq_eq_false_iff_ne.mpr c41
                                        have c41b1 : (t168 != 0) = true := bne_iff_ne.mpr c41
                                        simp only [Option.some.injEq, Prod.mk.injEq] at H
                                        obtain ⟨rfl, rfl, rfl, rfl, rfl⟩ := H
                                        go_wp2_with (first | ((with_reducible refine gate_callee (f := 13) rfl ?_); refine goesL_ (some 77) rfl rfl Try.func13 (by kernel_rfl) rfl #[.int .i64 a0] rfl (by (try simp only [List.map_toArray, List.map_cons, List.map_nil]); first | done | rfl | (simp only [List.length_drop, List.length_take]; rfl)) ?_; (with_reducible refine (cell_Number.calls a0 false _ A28.out).mono ?_); rintro e w' ⟨rfl, ⟨nd, rfl⟩⟩; refine ⟨_, rfl, ?_⟩; (try (rw [drewN_self wc]; generalize hq_ : World.drewN wc _ = wc; have n0_ : Aside0 (wc.heap[gb152]? = some (.cells #[.bool false, .int .i64 0, .slice none 0 0] 24 (0, 0))) := ⟨by rw [← hq_]; exact (by (with_reducible repeat (first | refine blk_drewN ?_ _ | refine blk_drew ?_ | refine blk_alloc ?_ _)); exact BK152.out)⟩; have n1_ : Aside0 (Below w.heap.size w wc) := ⟨by rw [← hq_]; exact (by repeat (first | (with_reducible first | exact HB.out | apply below_alloc | apply pw_below_drewN | apply below_drew1 | refine below_set ?_ GE152.out) | exact HB.out))⟩; clear BK152 HB hq_; have BK152 := n0_; have HB := n1_; clear n0_ n1_)); obtain ⟨i046, hi046, _, hsz46, _⟩ := info_parts info5; obtain ⟨A46, hcut46, hA46, hC46⟩ := print_mid_of (P := Try.prog) (Value.int .u8) 0 22 5 .i64 .i64 Try.underlying22 hi046 hsz46 (some ad154) c1 l1 t157 (wrap64 (t157 + (wrap64 (t156)))) (of_decide_eq_true (by first | (with_reducible assumption) | assumption)) (by first | omega | exact of_decide_eq_true (by first | (with_reducible assumption) | assumption)) (of_decide_eq_true (by first | (with_reducible assumption) | assumption)) HC1.out; have HR164 := Aside0.mk (Kd.C_of_reads (h1 := fun _ => rfl) (hA46 _ (Kd.reads_of_C HR1.out))); have HC164 := Aside0.mk hC46; clear hA46 hC46 hi046 hsz46) | ((with_reducible refine gate_callee (f := 42) rfl ?_); refine goesL_ (some 102) rfl rfl Try.func42 (by kernel_rfl) rfl #[.slice A46 ((l1.take ((wrap64 (t157 + (wrap64 (t156)))) : Int).toNat).drop (t157 : Int).toNat).length (c1 - t157.toNat)] rfl (by (try simp only [List.map_toArray, List.map_cons, List.map_nil]); first | done | (rw [show ((l1.take ((wrap64 (t157 + (wrap64 (t156)))) : Int).toNat).drop (t157 : Int).toNat).length = ((wrap64 (t157 + (wrap64 (t156)))).toNat - t157.toNat) from (by rw [List.length_drop, List.length_take]; have h_ : ((wrap64 (t157 + (wrap64 (t156)))) : Int) ≤ (l1.length : Int) := of_decide_eq_true (by first | (with_reducible assumption) | assumption); omega)] <;> rfl) | rfl | (simp only [List.length_drop, List.length_take]; rfl)) ?_; (with_reducible refine (bytes_Clone.calls _ _ ((l1.take ((wrap64 (t157 + (wrap64 (t156)))) : Int).toNat).drop (t157 : Int).toNat) t165 _ ?side1 ?side2 A39.out).mono ?_); (case side1 => repeat (first | exact (Kd.C_below HR164.out HB.out) | (with_reducible refine Kd.C_alloc ?_ _) | (with_reducible refine Kd.C_drewN ?_ _) | (with_reducible refine Kd.C_drew ?_))); (case side2 => exact HC164.out); rintro e w47 ⟨v166, rfl, ho0, hb⟩; refine ⟨_, rfl, ?_⟩; have n0_ := Aside0.mk (Kd.R_lower ho0 (below_size (by repeat (first | (with_reducible first | exact HB.out | apply below_alloc | apply pw_below_drewN | apply below_drew1 | refine below_set ?_ GE152.out) | exact HB.out)))); have n1_ := Aside0.mk (blk_below (g := gb152) (o := .cells #[.bool false, .int .i64 0, .slice none 0 0] 24 (0, 0)) (by (with_reducible repeat (first | refine blk_drewN ?_ _ | refine blk_drew ?_ | refine blk_alloc ?_ _)); exact BK152.out) hb); have n2_ := Aside0.mk (below_step (by repeat (first | (with_reducible first | exact HB.out | apply below_alloc | apply pw_below_drewN | apply below_drew1 | refine below_set ?_ GE152.out) | exact HB.out)) hb); clear BK152; clear HB; have HO167 := n0_; have BK152 := n1_; have HB := n2_; clear n0_ n1_ n2_; (try clear hb); (try clear hb2); (try clear hk); (try clear hi); (try clear ho0); obtain ⟨Ao48, co48, eo48⟩ := Kd.R_slice HO167.out; subst eo48) | ((with_reducible refine gate_callee (f := 29) rfl ?_); refine goesL_ (some 105) rfl rfl Try.func29 (by kernel_rfl) rfl #[.int .i64 a0, .slice Ao48 t165.length co48] rfl (by (try simp only [List.map_toArray, List.map_cons, List.map_nil]); first | done | rfl | (simp only [List.length_drop, List.length_take]; rfl)) ?_; (with_reducible refine (cell_text.calls a0 _ _ t165 t168 _ ?side1 ?side2 A40.out).mono ?_); (case side1 => repeat (first | exact (Kd.R_reads' HO167.out).2.2 | (with_reducible refine Kd.C_alloc ?_ _) | (with_reducible refine Kd.C_drewN ?_ _) | (with_reducible refine Kd.C_drew ?_))); (case side2 => exact (Kd.R_reads' HO167.out).2.1); rintro e w' ⟨rfl, ⟨nd, rfl⟩⟩; refine ⟨_, rfl, ?_⟩; (try (rw [drewN_self w47]; generalize hq_ : World.drewN w47 _ = w47; have n0_ : Aside0 (Kd.R (Kd.int .u8) 5 w47 w.heap.size (fun _ => True) (.slice Ao48 t165.length co48) t165) := ⟨by rw [← hq_]; exact (by (with_reducible repeat (first | apply Kd.R_alloc | apply Kd.R_drewN | apply Kd.R_drew)); exact HO167.out)⟩; have n1_ : Aside0 (w47.heap[gb152]? = some (.cells #[.bool false, .int .i64 0, .slice none 0 0] 24 (0, 0))) := ⟨by rw [← hq_]; exact (by (with_reducible repeat (first | refine blk_drewN ?_ _ | refine blk_drew ?_ | refine blk_alloc ?_ _)); exact BK152.out)⟩; have n2_ : Aside0 (Below w.heap.size w w47) := ⟨by rw [← hq_]; exact (by repeat (first | (with_reducible first | exact HB.out | apply below_alloc | apply pw_below_drewN | apply below_drew1 | refine below_set ?_ GE152.out) | exact HB.out))⟩; clear HO167 BK152 HB hq_; have HO167 := n0_; have BK152 := n1_; have HB := n2_; clear n0_ n1_ n2_)); have hcz49_0 : w47.cell? ⟨gb152, 0, none⟩ = some (.bool false) := (blk_cell BK152.out 0).trans rfl; have hcz49_1 : w47.cell? ⟨gb152, 1, none⟩ = some (.int .i64 0) := (blk_cell BK152.out 1).trans rfl; have hcz49_2 : w47.cell? ⟨gb152, 2, none⟩ = some (.slice none 0 0) := (blk_cell BK152.out 2).trans rfl; have hfz49_0 := blk_frozen BK152.out 0; have hfz49_1 := blk_frozen BK152.out 1; have hfz49_2 := blk_frozen BK152.out 2))
                                        refine bodyPost_ret (results_ctt rfl _ _ gb152 24 #[.bool false, .int .i64 0, .slice none 0 0] (0, 0) _ rfl (by (with_reducible repeat (first | refine blk_drewN ?_ _ | refine blk_drew ?_ | refine blk_alloc ?_ _)); refine blk_put (cs := #[.bool false, .int .i64 0, .slice none 0 0]) ?_ 2 _ rfl; (with_reducible repeat (first | refine blk_drewN ?_ _ | refine blk_drew ?_ | refine blk_alloc ?_ _)); refine blk_put (cs := #[.bool false, .int .i64 0, .slice none 0 0]) ?_ 1 _ rfl; (with_reducible repeat (first | refine blk_drewN ?_ _ | refine blk_drew ?_ | refine blk_alloc ?_ _)); refine blk_put (cs := #[.bool false, .int .i64 0, .slice none 0 0]) ?_ 0 _ rfl; (with_reducible repeat (first | refine blk_drewN ?_ _ | refine blk_drew ?_ | refine blk_alloc ?_ _)); exact BK152.out) Try.underlying24 rfl (by kernel_rfl)) rfl ?_
                                        exact ⟨_, by first | rfl | (simp [errW_none, errW_some] <;> rfl) | (simp [*, errW_none, errW_some] <;> rfl), by first | exact Kd.R_nil _ _ _ _ _ | exact Kd.N_nil _ _ _ _ _ | exact Kd.V_nil _ _ _ _ _ | exact Kd.Q_nil _ _ _ _ _ | exact Kd.S_nil _ _ _ _ _, by repeat (first | (with_reducible first | exact HB.out | apply below_alloc | apply pw_below_drewN | apply below_drew1 | refine below_set ?_ GE152.out) | exact HB.out)⟩
                                    · rw [if_neg c38] at H
                                      exact absurd H (by simp)
                                  · rw [if_neg c37] at H
                                    exact absurd H (by simp)
                                · rw [if_neg c36] at H
                                  exact absurd H (by simp)
                  · rw [if_neg c20] at H
                    have c20b0 : (t158 == 0) = false := beq_eq_false_iff_ne.mpr c20
                    have c20b1 : (t158 != 0) = true := bne_iff_ne.mpr c20
                    simp only [Option.some.injEq, Prod.mk.injEq] at H
                    obtain ⟨rfl, rfl, rfl, rfl, rfl⟩ := H
                    have p154 : 0 ≤ (a2 : Int) := of_decide_eq_true (by first | (with_reducible assumption) | assumption)
                    have q154 : a2 < (l1.length : Int) := of_decide_eq_true (by first | (with_reducible assumption) | assumption)
                    obtain ⟨ad154, e154, hx154_0⟩ := Kd.at_int HR1.out a2 p154 q154
                    cases e154
                    replace hx154_0 := (HB.out.cell (World.block_lt_of_cell? w _ hx154_0)).trans hx154_0
                    replace p154 := eq_true p154
                    replace q154 := eq_true q154
                    have p155 : 0 ≤ (a2 : Int) := of_decide_eq_true (by first | (with_reducible assumption) | assumption)
                    have q155 : a2 < (l1.length : Int) := of_decide_eq_true (by first | (with_reducible assumption) | assumption)
                    obtain ⟨ad155, e155, hx155_0⟩ := Kd.at_int HR1.out a2 p155 q155
                    obtain rfl : ad154 = ad155 := (by injection e155)
                    replace hx155_0 := (HB.out.cell (World.block_lt_of_cell? w _ hx155_0)).trans hx155_0
                    replace p155 := eq_true p155
                    replace q155 := eq_true q155
                    go_wp2_with (first | ((with_reducible refine gate_callee (f := 40) rfl ?_); refine goesL_ (some 55) rfl rfl Try.func40 (by kernel_rfl) rfl #[.slice (some ad154) l1.length c1, .int .i64 (wrap64 (a2 + 1))] rfl (by (try simp only [List.map_toArray, List.map_cons, List.map_nil]); first | done | rfl | (simp only [List.length_drop, List.length_take]; rfl)) ?_; (with_reducible refine (vint_Get.calls kj3 _ _ l1 (wrap64 (a2 + 1)) t156 t157 t158 _ ?side1 ?side2 A19.out).mono ?_); (case side1 => repeat (first | exact (Kd.C_below HR1.out HB.out) | (with_reducible refine Kd.C_alloc ?_ _) | (with_reducible refine Kd.C_drewN ?_ _) | (with_reducible refine Kd.C_drew ?_))); (case side2 => exact HC1.out); rintro e w' ⟨rfl, ⟨nd, rfl⟩⟩; refine ⟨_, rfl, ?_⟩; (try (rw [drewN_self wc]; generalize hq_ : World.drewN wc _ = wc; have n0_ : Aside0 (wc.heap[gb152]? = some (.cells #[.bool false, .int .i64 0, .slice none 0 0] 24 (0, 0))) := ⟨by rw [← hq_]; exact (by (with_reducible repeat (first | refine blk_drewN ?_ _ | refine blk_drew ?_ | refine blk_alloc ?_ _)); exact BK152.out)⟩; have n1_ : Aside0 (Below w.heap.size w wc) := ⟨by rw [← hq_]; exact (by repeat (first | (with_reducible first | exact HB.out | apply below_alloc | apply pw_below_drewN | apply below_drew1 | refine below_set ?_ GE152.out) | exact HB.out))⟩; clear BK152 HB hq_; have BK152 := n0_; have HB := n1_; clear n0_ n1_)); have hcz50_0 : wc.cell? ⟨gb152, 0, none⟩ = some (.bool false) := (blk_cell BK152.out 0).trans rfl; have hcz50_1 : wc.cell? ⟨gb152, 1, none⟩ = some (.int .i64 0) := (blk_cell BK152.out 1).trans rfl; have hcz50_2 : wc.cell? ⟨gb152, 2, none⟩ = some (.slice none 0 0) := (blk_cell BK152.out 2).trans rfl; have hfz50_0 := blk_frozen BK152.out 0; have hfz50_1 := blk_frozen BK152.out 1; have hfz50_2 := blk_frozen BK152.out 2))
                    refine bodyPost_ret (results_ctt rfl _ _ gb152 24 #[.bool false, .int .i64 0, .slice none 0 0] (0, 0) _ rfl (by (with_reducible repeat (first | refine blk_drewN ?_ _ | refine blk_drew ?_ | refine blk_alloc ?_ _)); refine blk_put (cs := #[.bool false, .int .i64 0, .slice none 0 0]) ?_ 2 _ rfl; (with_reducible repeat (first | refine blk_drewN ?_ _ | refine blk_drew ?_ | refine blk_alloc ?_ _)); refine blk_put (cs := #[.bool false, .int .i64 0, .slice none 0 0]) ?_ 1 _ rfl; (with_reducible repeat (first | refine blk_drewN ?_ _ | refine blk_drew ?_ | refine blk_alloc ?_ _)); refine blk_put (cs := #[.bool false, .int .i64 0, .slice none 0 0]) ?_ 0 _ rfl; (with_reducible repeat (first | refine blk_drewN ?_ _ | refine blk_drew ?_ | refine blk_alloc ?_ _)); exact BK152.out) Try.underlying24 rfl (by kernel_rfl)) rfl ?_
                    exact ⟨_, by first | rfl | (simp [errW_none, errW_some] <;> rfl) | (simp [*, errW_none, errW_some] <;> rfl), by first | exact Kd.R_nil _ _ _ _ _ | exact Kd.N_nil _ _ _ _ _ | exact Kd.V_nil _ _ _ _ _ | exact Kd.Q_nil _ _ _ _ _ | exact Kd.S_nil _ _ _ _ _, by repeat (first | (with_reducible first | exact HB.out | apply below_alloc | apply pw_below_drewN | apply below_drew1 | refine below_set ?_ GE152.out) | exact HB.out)⟩
            · rw [if_neg c14] at H
              exact absurd H (by simp)
          · rw [if_neg c13] at H
            exact absurd H (by simp)

/-! ### stoaref01_Same: function 25 -/
def stoaref01_Same.l0 : Nat → List Int → List Int → Int → Option (Bool)
  | 0, _, _, _ => none
  | k + 1, x0, x1, x5 => if x5 < (x0.length : Int) then (if 0 ≤ x5 then (if x5 < (x1.length : Int) then (if (rd x0 x5) = (rd x1 x5) then (stoaref01_Same.l0 k x0 x1 (wrap64 (x5 + 1))) else (some false)) else (none)) else (none)) else (some true)
def stoaref01_Same.f (k : Nat) (l0 : List Int) (l1 : List Int) : Option (Bool) := if (l0.length : Int) = (l1.length : Int) then (stoaref01_Same.l0 k l0 l1 0) else (some false)
theorem stoaref01_Same.mono_l : ∀ k, (∀ y0 y1 y2, LeO (stoaref01_Same.l0 k y0 y1 y2) (stoaref01_Same.l0 (k + 1) y0 y1 y2))
  | 0 => fun _ _ _ r h => by simp [stoaref01_Same.l0] at h
  | k + 1 => by
    have ih0 := stoaref01_Same.mono_l k
    · intro y0 y1 y2
      unfold stoaref01_Same.l0
      repeat' first
      | (with_reducible exact ih0 _ _ _)
      | (with_reducible exact LeO.refl _)
      | (with_reducible exact LeO.none _)
      | (with_reducible refine LeO.ite ?_ ?_)
      | (with_reducible refine LeO.bind ?_ (fun _ => ?_))
      | exact ih0 _ _ _
      | exact LeO.none _
      | refine LeO.ite ?_ ?_
      | refine LeO.bind ?_ (fun _ => ?_)
theorem stoaref01_Same.mono : ∀ a0 a1 k, LeO (stoaref01_Same.f k a0 a1) (stoaref01_Same.f (k + 1) a0 a1) := by
  intro a0 a1 k
  have ih0 := stoaref01_Same.mono_l k
  unfold stoaref01_Same.f
  repeat' first
      | (with_reducible exact ih0 _ _ _)
      | (with_reducible exact LeO.refl _)
      | (with_reducible exact LeO.none _)
      | (with_reducible refine LeO.ite ?_ ?_)
      | (with_reducible refine LeO.bind ?_ (fun _ => ?_))
      | exact ih0 _ _ _
      | exact LeO.none _
      | refine LeO.ite ?_ ?_
      | refine LeO.bind ?_ (fun _ => ?_)
set_option maxHeartbeats 8000000 in
set_option maxRecDepth 100000 in
theorem stoaref01_Same.calls (k : Nat) (A0 : Option Addr) (c0 : Nat) (l0 : List Int) (A1 : Option Addr) (c1 : Nat) (l1 : List Int) (r : Bool) (w : World) (hr0 : Kd.C (Kd.int .u8) w A0 l0.length l0) (hc0 : l0.length ≤ c0) (hr1 : Kd.C (Kd.int .u8) w A1 l1.length l1) (hc1 : l1.length ≤ c1) (h : stoaref01_Same.f k l0 l1 = some r) :
    Calls Try.prog 25 #[.slice A0 l0.length c0, .slice A1 l1.length c1] w fun e w' => e = .returned (.bool r) ∧ Drawn0 w w' := by
  have HR0 := Aside0.mk hr0
  have HC0 := Aside0.mk hc0
  clear hr0 hc0
  have HR1 := Aside0.mk hr1
  have HC1 := Aside0.mk hc1
  clear hr1 hc1
  have H : (if (l0.length : Int) = (l1.length : Int) then (stoaref01_Same.l0 k l0 l1 0) else (some false)) = some r := h
  clear h
  by_cases c3 : (l0.length : Int) = (l1.length : Int)
  · rw [if_pos c3] at H
    have c3b0 : ((l0.length : Int) == (l1.length : Int)) = true := beq_iff_eq.mpr c3
    have c3b1 : ((l0.length : Int) != (l1.length : Int)) = false := bne_eq_false_iff_eq.mpr c3
    have c3b2 : (l0.length == l1.length) = true := by first | simpa using c3 | (simp at c3 ⊢; omega)
    clear c3
    have H' := Aside0.mk H
    clear H
    go_enter Try.func25, Try.ntmps25
    go_wp2
    repeat (go_quiet (fail); try go_wp2)
    go_loopg [5] k (fun kq v5 w' => ∃ (x5_1 : Int), v5 = .int .i64 x5_1 ∧ Aside0 (stoaref01_Same.l0 kq l0 l1 x5_1 = some r) ∧ Aside0 (kq ≤ k) ∧ Drawn0 w w')
    case atStart => exact ⟨(0), (by first | rfl | (simp; done) | (simp [*]; done)), H', ⟨Nat.le_refl _⟩, by repeat (first | exact Drawn0.refl _ | apply Drawn0.step)⟩
    case round =>
      clear H'
      try clear c1
      try clear c2
      try clear p2
      try clear c3
      try clear c3b0
      try clear c3b1
      try clear c3b2
      obtain ⟨x5_1, rfl, HA, HK1, ⟨m1, rfl⟩⟩ := hrel
      cases gk with
      | zero => exact absurd HA.out (by simp [stoaref01_Same.l0])
      | succ k1 =>
        have H := HA.out
        clear HA
        simp only [stoaref01_Same.l0] at H
        by_cases c4 : x5_1 < (l0.length : Int)
        · rw [if_pos c4] at H
          have c4b0 : decide (x5_1 < (l0.length : Int)) = true := decide_eq_true c4
          clear c4
          by_cases c5 : 0 ≤ x5_1
          · rw [if_pos c5] at H
            have c5b0 : decide (0 ≤ x5_1) = true := decide_eq_true c5
            clear c5
            by_cases c6 : x5_1 < (l1.length : Int)
            · rw [if_pos c6] at H
              have c6b0 : decide (x5_1 < (l1.length : Int)) = true := decide_eq_true c6
              clear c6
              by_cases c7 : (rd l0 x5_1) = (rd l1 x5_1)
              · rw [if_pos c7] at H
                have c7b0 : ((rd l0 x5_1) == (rd l1 x5_1)) = true := beq_iff_eq.mpr c7
                have c7b1 : ((rd l0 x5_1) != (rd l1 x5_1)) = false := bne_eq_false_iff_eq.mpr c7
                clear c7
                have H' := Aside0.mk H
                clear H
                have p169 : 0 ≤ (x5_1 : Int) := of_decide_eq_true (by first | (with_reducible assumption) | assumption)
                have q169 : x5_1 < (l0.length : Int) := of_decide_eq_true (by first | (with_reducible assumption) | assumption)
                obtain ⟨ad169, e169, hx169_0⟩ := Kd.at_int HR0.out x5_1 p169 q169
                cases e169
                replace p169 := eq_true p169
                replace q169 := eq_true q169
                have p170 : 0 ≤ (x5_1 : Int) := of_decide_eq_true (by first | (with_reducible assumption) | assumption)
                have q170 : x5_1 < (l1.length : Int) := of_decide_eq_true (by first | (with_reducible assumption) | assumption)
                obtain ⟨ad170, e170, hx170_0⟩ := Kd.at_int HR1.out x5_1 p170 q170
                cases e170
                replace p170 := eq_true p170
                replace q170 := eq_true q170
                go_wp2
                repeat (go_quiet (fail); try go_wp2)
                go_roundg k1
                case measure => have := HK1.out; omega
                case rel => exact ⟨(wrap64 (x5_1 + 1)), (by first | rfl | (simp; done) | (simp [*]; done)), H', ⟨by have := HK1.out; omega⟩, by repeat (first | exact Drawn0.refl _ | apply Drawn0.step)⟩
              · rw [if_neg c7] at H
                have c7b0 : ((rd l0 x5_1) == (rd l1 x5_1)) = false := beq_eq_false_iff_ne.mpr c7
                have c7b1 : ((rd l0 x5_1) != (rd l1 x5_1)) = true := bne_iff_ne.mpr c7
                obtain rfl := Option.some.inj H
                have p169 : 0 ≤ (x5_1 : Int) := of_decide_eq_true (by first | (with_reducible assumption) | assumption)
                have q169 : x5_1 < (l0.length : Int) := of_decide_eq_true (by first | (with_reducible assumption) | assumption)
                obtain ⟨ad169, e169, hx169_0⟩ := Kd.at_int HR0.out x5_1 p169 q169
                cases e169
                replace p169 := eq_true p169
                replace q169 := eq_true q169
                have p170 : 0 ≤ (x5_1 : Int) := of_decide_eq_true (by first | (with_reducible assumption) | assumption)
                have q170 : x5_1 < (l1.length : Int) := of_decide_eq_true (by first | (with_reducible assumption) | assumption)
                obtain ⟨ad170, e170, hx170_0⟩ := Kd.at_int HR1.out x5_1 p170 q170
                cases e170
                replace p170 := eq_true p170
                replace q170 := eq_true q170
                go_wp2
                repeat (go_quiet (fail); try go_wp2)
                go_ret
                exact ⟨by first | rfl | (simp; done) | (simp [*]; done), by repeat (first | exact Drawn0.refl _ | apply Drawn0.step)⟩
            · rw [if_neg c6] at H
              exact absurd H (by simp)
          · rw [if_neg c5] at H
            exact absurd H (by simp)
        · rw [if_neg c4] at H
          have c4b0 : decide (x5_1 < (l0.length : Int)) = false := decide_eq_false c4
          clear c4
          obtain rfl := Option.some.inj H
          go_wp2
          repeat (go_quiet (fail); try go_wp2)
          go_ret
          exact ⟨by first | rfl | (simp; done) | (simp [*]; done), by repeat (first | exact Drawn0.refl _ | apply Drawn0.step)⟩
  · rw [if_neg c3] at H
    have c3b0 : ((l0.length : Int) == (l1.length : Int)) = false := beq_eq_false_iff_ne.mpr c3
    have c3b1 : ((l0.length : Int) != (l1.length : Int)) = true := bne_iff_ne.mpr c3
    have c3b2 : (l0.length == l1.length) = false := by first | simpa using c3 | (simp at c3 ⊢; omega)
    obtain rfl := Option.some.inj H
    go_enter Try.func25, Try.ntmps25
    go_wp2
    repeat (go_quiet (fail); try go_wp2)
    go_ret
    exact ⟨by first | rfl | (simp; done) | (simp [*]; done), by repeat (first | exact Drawn0.refl _ | apply Drawn0.step)⟩

/-! ### cmp_Or_int: function 45 -/
def cmp_Or_int.l0 : Nat → Int → List Int → Int → Int → Option (Int)
  | 0, _, _, _, _ => none
  | k + 1, x3, x6, x7, x8 => if x8 < x7 then (if 0 ≤ x8 then (if x8 < (x6.length : Int) then (if (rd x6 x8) = x3 then (cmp_Or_int.l0 k x3 x6 x7 (wrap64 (x8 + 1))) else (some (rd x6 x8))) else (none)) else (none)) else (some x3)
def cmp_Or_int.f (k : Nat) (l0 : List Int) : Option (Int) := cmp_Or_int.l0 k 0 l0 (l0.length : Int) 0
theorem cmp_Or_int.mono_l : ∀ k, (∀ y0 y1 y2 y3, LeO (cmp_Or_int.l0 k y0 y1 y2 y3) (cmp_Or_int.l0 (k + 1) y0 y1 y2 y3))
  | 0 => fun _ _ _ _ r h => by simp [cmp_Or_int.l0] at h
  | k + 1 => by
    have ih0 := cmp_Or_int.mono_l k
    · intro y0 y1 y2 y3
      unfold cmp_Or_int.l0
      repeat' first
      | (with_reducible exact ih0 _ _ _ _)
      | (with_reducible exact LeO.refl _)
      | (with_reducible exact LeO.none _)
      | (with_reducible refine LeO.ite ?_ ?_)
      | (with_reducible refine LeO.bind ?_ (fun _ => ?_))
      | exact ih0 _ _ _ _
      | exact LeO.none _
      | refine LeO.ite ?_ ?_
      | refine LeO.bind ?_ (fun _ => ?_)
theorem cmp_Or_int.mono : ∀ a0 k, LeO (cmp_Or_int.f k a0) (cmp_Or_int.f (k + 1) a0) := by
  intro a0 k
  have ih0 := cmp_Or_int.mono_l k
  unfold cmp_Or_int.f
  repeat' first
      | (with_reducible exact ih0 _ _ _ _)
      | (with_reducible exact LeO.refl _)
      | (with_reducible exact LeO.none _)
      | (with_reducible refine LeO.ite ?_ ?_)
      | (with_reducible refine LeO.bind ?_ (fun _ => ?_))
      | exact ih0 _ _ _ _
      | exact LeO.none _
      | refine LeO.ite ?_ ?_
      | refine LeO.bind ?_ (fun _ => ?_)
set_option maxHeartbeats 8000000 in
set_option maxRecDepth 100000 in
theorem cmp_Or_int.calls (k : Nat) (A0 : Option Addr) (c0 : Nat) (l0 : List Int) (r : Int) (w : World) (hr0 : Kd.C (Kd.int .i64) w A0 l0.length l0) (hc0 : l0.length ≤ c0) (h : cmp_Or_int.f k l0 = some r) :
    Calls Try.prog 45 #[.slice A0 l0.length c0] w fun e w' => e = .returned (.int .i64 r) ∧ Drawn0 w w' := by
  have HR0 := Aside0.mk hr0
  have HC0 := Aside0.mk hc0
  clear hr0 hc0
  have H : (cmp_Or_int.l0 k 0 l0 (l0.length : Int) 0) = some r := h
  clear h
  have H' := Aside0.mk H
  clear H
  go_enter Try.func45, Try.ntmps45
  go_wp2
  go_loopg [8] k (fun kq v8 w' => ∃ (x8_1 : Int), v8 = .int .i64 x8_1 ∧ Aside0 (cmp_Or_int.l0 kq 0 l0 (l0.length : Int) x8_1 = some r) ∧ Aside0 (kq ≤ k) ∧ Drawn0 w w')
  case atStart => exact ⟨(0), (by first | rfl | (simp; done) | (simp [*]; done)), H', ⟨Nat.le_refl _⟩, by repeat (first | exact Drawn0.refl _ | apply Drawn0.step)⟩
  case round =>
    clear H'
    obtain ⟨x8_1, rfl, HA, HK1, ⟨m1, rfl⟩⟩ := hrel
    cases gk with
    | zero => exact absurd HA.out (by simp [cmp_Or_int.l0])
    | succ k1 =>
      have H := HA.out
      clear HA
      simp only [cmp_Or_int.l0] at H
      by_cases c2 : x8_1 < (l0.length : Int)
      · rw [if_pos c2] at H
        have c2b0 : decide (x8_1 < (l0.length : Int)) = true := decide_eq_true c2
        clear c2
        by_cases c3 : 0 ≤ x8_1
        · rw [if_pos c3] at H
          have c3b0 : decide (0 ≤ x8_1) = true := decide_eq_true c3
          clear c3
          by_cases c4 : x8_1 < (l0.length : Int)
          · rw [if_pos c4] at H
            have c4b0 : decide (x8_1 < (l0.length : Int)) = true := decide_eq_true c4
            clear c4
            by_cases c5 : (rd l0 x8_1) = 0
            · rw [if_pos c5] at H
              have c5b0 : ((rd l0 x8_1) == 0) = true := beq_iff_eq.mpr c5
              have c5b1 : ((rd l0 x8_1) != 0) = false := bne_eq_false_iff_eq.mpr c5
              clear c5
              have H' := Aside0.mk H
              clear H
              have p171 : 0 ≤ (x8_1 : Int) := of_decide_eq_true (by first | (with_reducible assumption) | assumption)
              have q171 : x8_1 < (l0.length : Int) := of_decide_eq_true (by first | (with_reducible assumption) | assumption)
              obtain ⟨ad171, e171, hx171_0⟩ := Kd.at_int HR0.out x8_1 p171 q171
              cases e171
              replace p171 := eq_true p171
              replace q171 := eq_true q171
              go_wp2
              go_roundg k1
              case measure => have := HK1.out; omega
              case rel => exact ⟨(wrap64 (x8_1 + 1)), (by first | rfl | (simp; done) | (simp [*]; done)), H', ⟨by have := HK1.out; omega⟩, by repeat (first | exact Drawn0.refl _ | apply Drawn0.step)⟩
            · rw [if_neg c5] at H
              have c5b0 : ((rd l0 x8_1) == 0) = false := beq_eq_false_iff_ne.mpr c5
              have c5b1 : ((rd l0 x8_1) != 0) = true := bne_iff_ne.mpr c5
              obtain rfl := Option.some.inj H
              have p171 : 0 ≤ (x8_1 : Int) := of_decide_eq_true (by first | (with_reducible assumption) | assumption)
              have q171 : x8_1 < (l0.length : Int) := of_decide_eq_true (by first | (with_reducible assumption) | assumption)
              obtain ⟨ad171, e171, hx171_0⟩ := Kd.at_int HR0.out x8_1 p171 q171
              cases e171
              replace p171 := eq_true p171
              replace q171 := eq_true q171
              go_wp2
              go_ret
              exact ⟨by first | rfl | (simp; done) | (simp [*]; done), by repeat (first | exact Drawn0.refl _ | apply Drawn0.step)⟩
          · rw [if_neg c4] at H
            exact absurd H (by simp)
        · rw [if_neg c3] at H
          exact absurd H (by simp)
      · rw [if_neg c2] at H
        have c2b0 : decide (x8_1 < (l0.length : Int)) = false := decide_eq_false c2
        clear c2
        obtain rfl := Option.some.inj H
        go_wp2
        go_ret
        exact ⟨by first | rfl | (simp; done) | (simp [*]; done), by repeat (first | exact Drawn0.refl _ | apply Drawn0.step)⟩

/-! ### cmp_isNaN_int64: function 51 -/
def cmp_isNaN_int64.f (a0 : Int) : Option (Bool) := some (a0 != a0)
set_option maxHeartbeats 8000000 in
set_option maxRecDepth 100000 in
theorem cmp_isNaN_int64.calls (a0 : Int) (r : Bool) (w : World) (h : cmp_isNaN_int64.f a0 = some r) :
    Calls Try.prog 51 #[.int .i64 a0] w fun e w' => e = .returned (.bool r) ∧ Drawn0 w w' := by
  have H : (some (a0 != a0)) = some r := h
  clear h
  obtain rfl := Option.some.inj H
  go_enter Try.func51, Try.ntmps51
  go_wp2
  go_ret
  exact ⟨by first | rfl | (simp; done) | (simp [*]; done), by repeat (first | exact Drawn0.refl _ | apply Drawn0.step)⟩

end Go.Proofs.Ytaibfjipombilaa.PCellPuts

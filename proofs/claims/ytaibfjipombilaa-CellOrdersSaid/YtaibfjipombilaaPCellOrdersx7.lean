-- written by this session's own printing program (myprint.sh)
import Derived.Test.YtaibfjipombilaaPCellOrdersx0
import Derived.Test.YtaibfjipombilaaPCellOrdersx6
namespace Go.Proofs.Ytaibfjipombilaa.PCellOrders
open Go.RowKit Go.Proofs.YtaibfjipombilaaW.PrintWords Go.Proofs.YtaibfjipombilaaW.PrintLast Go.Proofs.YtaibfjipombilaaW.PrintMore
attribute [local go_sem] max2_int min2_int max_two min_two max_three min_three max_four min_four   -- for this text's walks alone
set_option linter.unusedVariables false
set_option linter.unusedSimpArgs false

/-! ### stoaref05_Check: function 12 -/
def stoaref05_Check.j0 : Nat → Int → Bool → Bool → Bool → Int → List Int → Option (Int)
  | 0, _, _, _, _, _, _ => none
  | k + 1, x0, x1, x12, x223000, x223001, x223002 => if x12 = true then (some 1) else (if x223000 = true then (if x1 = true then (if x223001 = 0 then (if (x223002.length : Int) > 0 then (some 50) else (some 0)) else (some 50)) else (some 51)) else (if x0 ≤ 6 then (if (x223002.length : Int) > 0 then (some 50) else ((stoaref05_Least.f x0).bind fun t223 => (if x223001 < t223 then (some 52) else ((stoaref05_Greatest.f x0).bind fun t224 => (if x223001 > t224 then (some 52) else (some 0)))))) else (if x223001 = 0 then (if (x223002.length : Int) > 200 then (some 4) else (if x0 = 7 then ((stoaref05_Zero.f k x223002).bind fun t225 => (if t225 = true then (some 5) else (some 0))) else (some 0))) else (some 50))))
def stoaref05_Check.f (k : Nat) (a0 : Int) (a1 : Bool) (a2_0 : Bool) (a2_1 : Int) (l2_2 : List Int) : Option (Int) := if a0 < 1 then (stoaref05_Check.j0 k a0 a1 true a2_0 a2_1 l2_2) else (stoaref05_Check.j0 k a0 a1 (decide (a0 > 8)) a2_0 a2_1 l2_2)
theorem stoaref05_Check.mono_l : ∀ k, (∀ y0 y1 y2 y3 y4 y5, LeO (stoaref05_Check.j0 k y0 y1 y2 y3 y4 y5) (stoaref05_Check.j0 (k + 1) y0 y1 y2 y3 y4 y5))
  | 0 => fun _ _ _ _ _ _ r h => by simp [stoaref05_Check.j0] at h
  | k + 1 => by
    have ih0 := stoaref05_Check.mono_l k
    · intro y0 y1 y2 y3 y4 y5
      unfold stoaref05_Check.j0
      repeat' first
      | (with_reducible exact ih0 _ _ _ _ _ _)
      | (with_reducible exact stoaref05_Zero.mono _ _)
      | (with_reducible exact LeO.refl _)
      | (with_reducible exact LeO.none _)
      | (with_reducible refine LeO.ite ?_ ?_)
      | (with_reducible refine LeO.bind ?_ (fun _ => ?_))
      | exact ih0 _ _ _ _ _ _
      | exact stoaref05_Zero.mono _ _
      | exact LeO.none _
      | refine LeO.ite ?_ ?_
      | refine LeO.bind ?_ (fun _ => ?_)
theorem stoaref05_Check.mono : ∀ a0 a1 a2 a3 a4 k, LeO (stoaref05_Check.f k a0 a1 a2 a3 a4) (stoaref05_Check.f (k + 1) a0 a1 a2 a3 a4) := by
  intro a0 a1 a2 a3 a4 k
  have ih0 := stoaref05_Check.mono_l k
  unfold stoaref05_Check.f
  repeat' first
      | (with_reducible exact ih0 _ _ _ _ _ _)
      | (with_reducible exact stoaref05_Zero.mono _ _)
      | (with_reducible exact LeO.refl _)
      | (with_reducible exact LeO.none _)
      | (with_reducible refine LeO.ite ?_ ?_)
      | (with_reducible refine LeO.bind ?_ (fun _ => ?_))
      | exact ih0 _ _ _ _ _ _
      | exact stoaref05_Zero.mono _ _
      | exact LeO.none _
      | refine LeO.ite ?_ ?_
      | refine LeO.bind ?_ (fun _ => ?_)
set_option maxHeartbeats 8000000 in
set_option maxRecDepth 100000 in
theorem stoaref05_Check.calls (k : Nat) (a0 : Int) (a1 : Bool) (a2_0 : Bool) (a2_1 : Int) (A2_2 : Option Addr) (c2_2 : Nat) (l2_2 : List Int) (r : Int) (w : World) (hr2_2 : Kd.C (Kd.int .u8) w A2_2 l2_2.length l2_2) (hc2_2 : l2_2.length ≤ c2_2) (h : stoaref05_Check.f k a0 a1 a2_0 a2_1 l2_2 = some r) :
    Calls Try.prog 12 #[.int .i64 a0, .bool a1, .agg #[.bool a2_0, .int .i64 a2_1, .slice A2_2 l2_2.length c2_2]] w fun e w' => e = .returned (.int .i64 r) ∧ Below w.heap.size w w' := by
  have hu24 := Try.underlying24
  have HR2_2 := Aside0.mk hr2_2
  have HC2_2 := Aside0.mk hc2_2
  clear hr2_2 hc2_2
  have HB := Aside0.mk (Below.refl w.heap.size w)
  have H : (if a0 < 1 then (stoaref05_Check.j0 k a0 a1 true a2_0 a2_1 l2_2) else (stoaref05_Check.j0 k a0 a1 (decide (a0 > 8)) a2_0 a2_1 l2_2)) = some r := h
  clear h
  have HC4 := Aside0.mk H
  clear H
  go_enter Try.func12, Try.ntmps12
  go_upto_region 1 with (first | ((with_reducible refine gate_dst (N := 5) rfl ?_); (try (refine gate_guard (by rfl) ?_; dsimp only)); refine box_event ?hg (N := 5) ?hd (cs := #[.bool a2_0, .int .i64 a2_1, .slice A2_2 l2_2.length c2_2]) (t := 24) ?hr ?_; (case hd => rfl); (case hg => rfl); (case hr => first | (go_simp; done) | (go_simp; rfl)); intro gb222 hg w5 hbox hb; have n0_ := Aside0.mk (below_step (by repeat (first | (with_reducible first | exact HB.out | apply below_alloc | apply pw_below_drewN | apply below_drew1) | exact HB.out)) hb); have n1_ := Aside0.mk (hbox); have n2_ := Aside0.mk ((by rw [hg]; exact (below_size (by repeat (first | (with_reducible first | exact HB.out | apply below_alloc | apply pw_below_drewN | apply below_drew1) | exact HB.out))) : w.heap.size ≤ gb222)); have n3_ := Aside0.mk ((by rw [hg]; exact (below_size (by repeat (first | (with_reducible first | exact HB.out | apply below_alloc | apply pw_below_drewN | apply below_drew1) | exact HB.out))) : w.heap.size ≤ gb222)); clear HB; have HB := n0_; have BK222 := n1_; have GW222 := n2_; have GE222 := n3_; clear n0_ n1_ n2_ n3_; clear hb hbox hg))
  repeat (go_quiet (first | ((with_reducible refine gate_dst (N := 5) rfl ?_); (try (refine gate_guard (by rfl) ?_; dsimp only)); refine box_event ?hg (N := 5) ?hd (cs := #[.bool a2_0, .int .i64 a2_1, .slice A2_2 l2_2.length c2_2]) (t := 24) ?hr ?_; (case hd => rfl); (case hg => rfl); (case hr => first | (go_simp; done) | (go_simp; rfl)); intro gb222 hg w5 hbox hb; have n0_ := Aside0.mk (below_step (by repeat (first | (with_reducible first | exact HB.out | apply below_alloc | apply pw_below_drewN | apply below_drew1) | exact HB.out)) hb); have n1_ := Aside0.mk (hbox); have n2_ := Aside0.mk ((by rw [hg]; exact (below_size (by repeat (first | (with_reducible first | exact HB.out | apply below_alloc | apply pw_below_drewN | apply below_drew1) | exact HB.out))) : w.heap.size ≤ gb222)); have n3_ := Aside0.mk ((by rw [hg]; exact (below_size (by repeat (first | (with_reducible first | exact HB.out | apply below_alloc | apply pw_below_drewN | apply below_drew1) | exact HB.out))) : w.heap.size ≤ gb222)); clear HB; have HB := n0_; have BK222 := n1_; have GW222 := n2_; have GE222 := n3_; clear n0_ n1_ n2_ n3_; clear hb hbox hg)); go_upto_region 1 with (first | ((with_reducible refine gate_dst (N := 5) rfl ?_); (try (refine gate_guard (by rfl) ?_; dsimp only)); refine box_event ?hg (N := 5) ?hd (cs := #[.bool a2_0, .int .i64 a2_1, .slice A2_2 l2_2.length c2_2]) (t := 24) ?hr ?_; (case hd => rfl); (case hg => rfl); (case hr => first | (go_simp; done) | (go_simp; rfl)); intro gb222 hg w5 hbox hb; have n0_ := Aside0.mk (below_step (by repeat (first | (with_reducible first | exact HB.out | apply below_alloc | apply pw_below_drewN | apply below_drew1) | exact HB.out)) hb); have n1_ := Aside0.mk (hbox); have n2_ := Aside0.mk ((by rw [hg]; exact (below_size (by repeat (first | (with_reducible first | exact HB.out | apply below_alloc | apply pw_below_drewN | apply below_drew1) | exact HB.out))) : w.heap.size ≤ gb222)); have n3_ := Aside0.mk ((by rw [hg]; exact (below_size (by repeat (first | (with_reducible first | exact HB.out | apply below_alloc | apply pw_below_drewN | apply below_drew1) | exact HB.out))) : w.heap.size ≤ gb222)); clear HB; have HB := n0_; have BK222 := n1_; have GW222 := n2_; have GE222 := n3_; clear n0_ n1_ n2_ n3_; clear hb hbox hg)))
  (try simp only [Act.put, List.setIfInBounds_toArray, List.set_cons_zero, List.set_cons_succ])
  go_cut [12] (fun v12 wc => ∃ (kq : Nat) (x12_3 : Bool), v12 = .bool x12_3 ∧ Aside0 (stoaref05_Check.j0 kq a0 a1 x12_3 a2_0 a2_1 l2_2 = some r) ∧ Aside0 (kq ≤ k) ∧ Aside0 (wc.heap[gb222]? = some (.cells #[.bool a2_0, .int .i64 a2_1, (.slice A2_2 l2_2.length c2_2)] 24 (0, 0))) ∧ Aside0 (Below w.heap.size w wc))
  case first =>
    have H := HC4.out
    clear HC4
    by_cases c6 : a0 < 1
    · rw [if_pos c6] at H
      have c6b0 : decide (a0 < 1) = true := decide_eq_true c6
      clear c6
      (first | rw [c6b0] | (simp only [i64_w, i32_w]; rw [c6b0]) | skip)
      have H' := Aside0.mk H
      clear H
      go_wp2
      repeat (go_quiet (fail); try go_wp2)
      go_meet
      case rel => exact ⟨_, (true), (by first | rfl | (simp; done) | (simp [*]; done)), H', ⟨by first | omega | exact Nat.le_refl _⟩, ⟨by (with_reducible repeat (first | refine blk_drewN ?_ _ | refine blk_drew ?_ | refine blk_alloc ?_ _)); exact BK222.out⟩, ⟨by repeat (first | (with_reducible first | exact HB.out | apply below_alloc | apply pw_below_drewN | apply below_drew1 | refine below_set ?_ GE222.out) | exact HB.out)⟩⟩
    · rw [if_neg c6] at H
      have c6b0 : decide (a0 < 1) = false := decide_eq_false c6
      clear c6
      (first | rw [c6b0] | (simp only [i64_w, i32_w]; rw [c6b0]) | skip)
      have H' := Aside0.mk H
      clear H
      go_wp2
      repeat (go_quiet (fail); try go_wp2)
      go_meet
      case rel => exact ⟨_, (decide (a0 > 8)), (by first | rfl | (simp; done) | (simp [*]; done)), H', ⟨by first | omega | exact Nat.le_refl _⟩, ⟨by (with_reducible repeat (first | refine blk_drewN ?_ _ | refine blk_drew ?_ | refine blk_alloc ?_ _)); exact BK222.out⟩, ⟨by repeat (first | (with_reducible first | exact HB.out | apply below_alloc | apply pw_below_drewN | apply below_drew1 | refine below_set ?_ GE222.out) | exact HB.out)⟩⟩
  case rest =>
    clear HC4
    try clear c1
    try clear c2
    try clear p2
    try clear c6
    try clear c6b0
    obtain ⟨kq, x12_3, rfl, HA, HJ3, BK222, HB⟩ := hcut
    cases kq with
    | zero => exact absurd HA.out (by simp [stoaref05_Check.j0])
    | succ kj3 =>
      have H := HA.out
      clear HA
      simp only [stoaref05_Check.j0] at H
      by_cases c7 : x12_3 = true
      · subst c7
        have H1 : (some 1) = some r := by rw [if_pos rfl] at H; exact H
        clear H
        have H := H1
        clear H1
        obtain rfl := Option.some.inj H
        go_wp2
        repeat (go_quiet (fail); try go_wp2)
        go_ret
        exact ⟨by first | rfl | (simp [errW_none, errW_some] <;> rfl) | (simp [*, errW_none, errW_some] <;> rfl), by repeat (first | (with_reducible first | exact HB.out | apply below_alloc | apply pw_below_drewN | apply below_drew1 | refine below_set ?_ GE222.out) | exact HB.out)⟩
      · replace c7 := Bool.eq_false_iff.mpr c7
        subst c7
        have H1 : (if a2_0 = true then (if a1 = true then (if a2_1 = 0 then (if (l2_2.length : Int) > 0 then (some 50) else (some 0)) else (some 50)) else (some 51)) else (if a0 ≤ 6 then (if (l2_2.length : Int) > 0 then (some 50) else ((stoaref05_Least.f a0).bind fun t223 => (if a2_1 < t223 then (some 52) else ((stoaref05_Greatest.f a0).bind fun t224 => (if a2_1 > t224 then (some 52) else (some 0)))))) else (if a2_1 = 0 then (if (l2_2.length : Int) > 200 then (some 4) else (if a0 = 7 then ((stoaref05_Zero.f kj3 l2_2).bind fun t225 => (if t225 = true then (some 5) else (some 0))) else (some 0))) else (some 50)))) = some r := by rw [if_neg (show ¬ (false = true) by decide)] at H; exact H
        clear H
        have H := H1
        clear H1
        by_cases c8 : a2_0 = true
        · subst c8
          have H1 : (if a1 = true then (if a2_1 = 0 then (if (l2_2.length : Int) > 0 then (some 50) else (some 0)) else (some 50)) else (some 51)) = some r := by rw [if_pos rfl] at H; exact H
          clear H
          have H := H1
          clear H1
          by_cases c9 : a1 = true
          · subst c9
            have H1 : (if a2_1 = 0 then (if (l2_2.length : Int) > 0 then (some 50) else (some 0)) else (some 50)) = some r := by rw [if_pos rfl] at H; exact H
            clear H
            have H := H1
            clear H1
            by_cases c10 : a2_1 = 0
            · rw [if_pos c10] at H
              have c10b0 : (a2_1 == 0) = true := beq_iff_eq.mpr c10
              have c10b1 : (a2_1 != 0) = false := bne_eq_false_iff_eq.mpr c10
              clear c10
              by_cases c11 : (l2_2.length : Int) > 0
              · rw [if_pos c11] at H
                have c11b0 : decide (0 < (l2_2.length : Int)) = true := decide_eq_true c11
                have c11b1 : decide (0 < l2_2.length) = true := decide_eq_true (by omega)
                clear c11
                obtain rfl := Option.some.inj H
                have hcz12_0 : wc.cell? ⟨gb222, 0, none⟩ = some (.bool true) := (blk_cell BK222.out 0).trans rfl
                have hcz12_1 : wc.cell? ⟨gb222, 1, none⟩ = some (.int .i64 a2_1) := (blk_cell BK222.out 1).trans rfl
                have hcz12_2 : wc.cell? ⟨gb222, 2, none⟩ = some (.slice A2_2 l2_2.length c2_2) := (blk_cell BK222.out 2).trans rfl
                have hfz12_0 := blk_frozen BK222.out 0
                have hfz12_1 := blk_frozen BK222.out 1
                have hfz12_2 := blk_frozen BK222.out 2
                go_wp2
                repeat (go_quiet (fail); try go_wp2)
                go_ret
                exact ⟨by first | rfl | (simp [errW_none, errW_some] <;> rfl) | (simp [*, errW_none, errW_some] <;> rfl), by repeat (first | (with_reducible first | exact HB.out | apply below_alloc | apply pw_below_drewN | apply below_drew1 | refine below_set ?_ GE222.out) | exact HB.out)⟩
              · rw [if_neg c11] at H
                have c11b0 : decide (0 < (l2_2.length : Int)) = false := decide_eq_false c11
                have c11b1 : decide (0 < l2_2.length) = false := decide_eq_false (by omega)
                clear c11
                obtain rfl := Option.some.inj H
                have hcz13_0 : wc.cell? ⟨gb222, 0, none⟩ = some (.bool true) := (blk_cell BK222.out 0).trans rfl
                have hcz13_1 : wc.cell? ⟨gb222, 1, none⟩ = some (.int .i64 a2_1) := (blk_cell BK222.out 1).trans rfl
                have hcz13_2 : wc.cell? ⟨gb222, 2, none⟩ = some (.slice A2_2 l2_2.length c2_2) := (blk_cell BK222.out 2).trans rfl
                have hfz13_0 := blk_frozen BK222.out 0
                have hfz13_1 := blk_frozen BK222.out 1
                have hfz13_2 := blk_frozen BK222.out 2
                go_wp2
                repeat (go_quiet (fail); try go_wp2)
                go_ret
                exact ⟨by first | rfl | (simp [errW_none, errW_some] <;> rfl) | (simp [*, errW_none, errW_some] <;> rfl), by repeat (first | (with_reducible first | exact HB.out | apply below_alloc | apply pw_below_drewN | apply below_drew1 | refine below_set ?_ GE222.out) | exact HB.out)⟩
            · rw [if_neg c10] at H
              have c10b0 : (a2_1 == 0) = false := beq_eq_false_iff_ne.mpr c10
              have c10b1 : (a2_1 != 0) = true := bne_iff_ne.mpr c10
              obtain rfl := Option.some.inj H
              have hcz14_0 : wc.cell? ⟨gb222, 0, none⟩ = some (.bool true) := (blk_cell BK222.out 0).trans rfl
              have hcz14_1 : wc.cell? ⟨gb222, 1, none⟩ = some (.int .i64 a2_1) := (blk_cell BK222.out 1).trans rfl
              have hcz14_2 : wc.cell? ⟨gb222, 2, none⟩ = some (.slice A2_2 l2_2.length c2_2) := (blk_cell BK222.out 2).trans rfl
              have hfz14_0 := blk_frozen BK222.out 0
              have hfz14_1 := blk_frozen BK222.out 1
              have hfz14_2 := blk_frozen BK222.out 2
              go_wp2
              repeat (go_quiet (fail); try go_wp2)
              go_ret
              exact ⟨by first | rfl | (simp [errW_none, errW_some] <;> rfl) | (simp [*, errW_none, errW_some] <;> rfl), by repeat (first | (with_reducible first | exact HB.out | apply below_alloc | apply pw_below_drewN | apply below_drew1 | refine below_set ?_ GE222.out) | exact HB.out)⟩
          · replace c9 := Bool.eq_false_iff.mpr c9
            subst c9
            have H1 : (some 51) = some r := by rw [if_neg (show ¬ (false = true) by decide)] at H; exact H
            clear H
            have H := H1
            clear H1
            obtain rfl := Option.some.inj H
            have hcz15_0 : wc.cell? ⟨gb222, 0, none⟩ = some (.bool true) := (blk_cell BK222.out 0).trans rfl
            have hcz15_1 : wc.cell? ⟨gb222, 1, none⟩ = some (.int .i64 a2_1) := (blk_cell BK222.out 1).trans rfl
            have hcz15_2 : wc.cell? ⟨gb222, 2, none⟩ = some (.slice A2_2 l2_2.length c2_2) := (blk_cell BK222.out 2).trans rfl
            have hfz15_0 := blk_frozen BK222.out 0
            have hfz15_1 := blk_frozen BK222.out 1
            have hfz15_2 := blk_frozen BK222.out 2
            go_wp2
            repeat (go_quiet (fail); try go_wp2)
            go_ret
            exact ⟨by first | rfl | (simp [errW_none, errW_some] <;> rfl) | (simp [*, errW_none, errW_some] <;> rfl), by repeat (first | (with_reducible first | exact HB.out | apply below_alloc | apply pw_below_drewN | apply below_drew1 | refine below_set ?_ GE222.out) | exact HB.out)⟩
        · replace c8 := Bool.eq_false_iff.mpr c8
          subst c8
          have H1 : (if a0 ≤ 6 then (if (l2_2.length : Int) > 0 then (some 50) else ((stoaref05_Least.f a0).bind fun t223 => (if a2_1 < t223 then (some 52) else ((stoaref05_Greatest.f a0).bind fun t224 => (if a2_1 > t224 then (some 52) else (some 0)))))) else (if a2_1 = 0 then (if (l2_2.length : Int) > 200 then (some 4) else (if a0 = 7 then ((stoaref05_Zero.f kj3 l2_2).bind fun t225 => (if t225 = true then (some 5) else (some 0))) else (some 0))) else (some 50))) = some r := by rw [if_neg (show ¬ (false = true) by decide)] at H; exact H
          clear H
          have H := H1
          clear H1
          by_cases c16 : a0 ≤ 6
          · rw [if_pos c16] at H
            have c16b0 : decide (a0 ≤ 6) = true := decide_eq_true c16
            clear c16
            by_cases c17 : (l2_2.length : Int) > 0
            · rw [if_pos c17] at H
              have c17b0 : decide (0 < (l2_2.length : Int)) = true := decide_eq_true c17
              have c17b1 : decide (0 < l2_2.length) = true := decide_eq_true (by omega)
              clear c17
              obtain rfl := Option.some.inj H
              have hcz18_0 : wc.cell? ⟨gb222, 0, none⟩ = some (.bool false) := (blk_cell BK222.out 0).trans rfl
              have hcz18_1 : wc.cell? ⟨gb222, 1, none⟩ = some (.int .i64 a2_1) := (blk_cell BK222.out 1).trans rfl
              have hcz18_2 : wc.cell? ⟨gb222, 2, none⟩ = some (.slice A2_2 l2_2.length c2_2) := (blk_cell BK222.out 2).trans rfl
              have hfz18_0 := blk_frozen BK222.out 0
              have hfz18_1 := blk_frozen BK222.out 1
              have hfz18_2 := blk_frozen BK222.out 2
              go_wp2
              repeat (go_quiet (fail); try go_wp2)
              go_ret
              exact ⟨by first | rfl | (simp [errW_none, errW_some] <;> rfl) | (simp [*, errW_none, errW_some] <;> rfl), by repeat (first | (with_reducible first | exact HB.out | apply below_alloc | apply pw_below_drewN | apply below_drew1 | refine below_set ?_ GE222.out) | exact HB.out)⟩
            · rw [if_neg c17] at H
              have c17b0 : decide (0 < (l2_2.length : Int)) = false := decide_eq_false c17
              have c17b1 : decide (0 < l2_2.length) = false := decide_eq_false (by omega)
              clear c17
              replace H := Option.bind_eq_some_iff.mp H
              obtain ⟨t223, A190, H⟩ := H
              replace H : (if a2_1 < t223 then (some 52) else ((stoaref05_Greatest.f a0).bind fun t224 => (if a2_1 > t224 then (some 52) else (some 0)))) = some r := H
              have A19 := Aside0.mk A190
              clear A190
              by_cases c20 : a2_1 < t223
              · rw [if_pos c20] at H
                have c20b0 : decide (a2_1 < t223) = true := decide_eq_true c20
                clear c20
                obtain rfl := Option.some.inj H
                have hcz21_0 : wc.cell? ⟨gb222, 0, none⟩ = some (.bool false) := (blk_cell BK222.out 0).trans rfl
                have hcz21_1 : wc.cell? ⟨gb222, 1, none⟩ = some (.int .i64 a2_1) := (blk_cell BK222.out 1).trans rfl
                have hcz21_2 : wc.cell? ⟨gb222, 2, none⟩ = some (.slice A2_2 l2_2.length c2_2) := (blk_cell BK222.out 2).trans rfl
                have hfz21_0 := blk_frozen BK222.out 0
                have hfz21_1 := blk_frozen BK222.out 1
                have hfz21_2 := blk_frozen BK222.out 2
                go_wp2_with (first | (go_at_call 31; (with_reducible refine (stoaref05_Least.calls a0 t223 _ A19.out).mono ?_); rintro e w' ⟨rfl, ⟨nd, rfl⟩⟩; (try first | exact ⟨rfl, _, World.drewN_drewN _ _ _⟩ | exact ⟨rfl, _, Eq.trans (World.drewN_drewN _ _ _) (congrArg (World.drewN _) (Nat.add_assoc _ _ _))⟩)))
                repeat (go_quiet (first | (go_at_call 31; (with_reducible refine (stoaref05_Least.calls a0 t223 _ A19.out).mono ?_); rintro e w' ⟨rfl, ⟨nd, rfl⟩⟩; (try first | exact ⟨rfl, _, World.drewN_drewN _ _ _⟩ | exact ⟨rfl, _, Eq.trans (World.drewN_drewN _ _ _) (congrArg (World.drewN _) (Nat.add_assoc _ _ _))⟩))); try go_wp2_with (first | (go_at_call 31; (with_reducible refine (stoaref05_Least.calls a0 t223 _ A19.out).mono ?_); rintro e w' ⟨rfl, ⟨nd, rfl⟩⟩; (try first | exact ⟨rfl, _, World.drewN_drewN _ _ _⟩ | exact ⟨rfl, _, Eq.trans (World.drewN_drewN _ _ _) (congrArg (World.drewN _) (Nat.add_assoc _ _ _))⟩))))
                go_ret
                exact ⟨by first | rfl | (simp [errW_none, errW_some] <;> rfl) | (simp [*, errW_none, errW_some] <;> rfl), by repeat (first | (with_reducible first | exact HB.out | apply below_alloc | apply pw_below_drewN | apply below_drew1 | refine below_set ?_ GE222.out) | exact HB.out)⟩
              · rw [if_neg c20] at H
                have c20b0 : decide (a2_1 < t223) = false := decide_eq_false c20
                clear c20
                replace H := Option.bind_eq_some_iff.mp H
                obtain ⟨t224, A220, H⟩ := H
                replace H : (if a2_1 > t224 then (some 52) else (some 0)) = some r := H
                have A22 := Aside0.mk A220
                clear A220
                by_cases c23 : a2_1 > t224
                · rw [if_pos c23] at H
                  have c23b0 : decide (t224 < a2_1) = true := decide_eq_true c23
                  clear c23
                  obtain rfl := Option.some.inj H
                  have hcz24_0 : wc.cell? ⟨gb222, 0, none⟩ = some (.bool false) := (blk_cell BK222.out 0).trans rfl
                  have hcz24_1 : wc.cell? ⟨gb222, 1, none⟩ = some (.int .i64 a2_1) := (blk_cell BK222.out 1).trans rfl
                  have hcz24_2 : wc.cell? ⟨gb222, 2, none⟩ = some (.slice A2_2 l2_2.length c2_2) := (blk_cell BK222.out 2).trans rfl
                  have hfz24_0 := blk_frozen BK222.out 0
                  have hfz24_1 := blk_frozen BK222.out 1
                  have hfz24_2 := blk_frozen BK222.out 2
                  go_wp2_with (first | (go_at_call 31; (with_reducible refine (stoaref05_Least.calls a0 t223 _ A19.out).mono ?_); rintro e w' ⟨rfl, ⟨nd, rfl⟩⟩; (try first | exact ⟨rfl, _, World.drewN_drewN _ _ _⟩ | exact ⟨rfl, _, Eq.trans (World.drewN_drewN _ _ _) (congrArg (World.drewN _) (Nat.add_assoc _ _ _))⟩)) | (go_at_call 32; (with_reducible refine (stoaref05_Greatest.calls a0 t224 _ A22.out).mono ?_); rintro e w' ⟨rfl, ⟨nd, rfl⟩⟩; (try first | exact ⟨rfl, _, World.drewN_drewN _ _ _⟩ | exact ⟨rfl, _, Eq.trans (World.drewN_drewN _ _ _) (congrArg (World.drewN _) (Nat.add_assoc _ _ _))⟩)))
                  repeat (go_quiet (first | (go_at_call 31; (with_reducible refine (stoaref05_Least.calls a0 t223 _ A19.out).mono ?_); rintro e w' ⟨rfl, ⟨nd, rfl⟩⟩; (try first | exact ⟨rfl, _, World.drewN_drewN _ _ _⟩ | exact ⟨rfl, _, Eq.trans (World.drewN_drewN _ _ _) (congrArg (World.drewN _) (Nat.add_assoc _ _ _))⟩)) | (go_at_call 32; (with_reducible refine (stoaref05_Greatest.calls a0 t224 _ A22.out).mono ?_); rintro e w' ⟨rfl, ⟨nd, rfl⟩⟩; (try first | exact ⟨rfl, _, World.drewN_drewN _ _ _⟩ | exact ⟨rfl, _, Eq.trans (World.drewN_drewN _ _ _) (congrArg (World.drewN _) (Nat.add_assoc _ _ _))⟩))); try go_wp2_with (first | (go_at_call 31; (with_reducible refine (stoaref05_Least.calls a0 t223 _ A19.out).mono ?_); rintro e w' ⟨rfl, ⟨nd, rfl⟩⟩; (try first | exact ⟨rfl, _, World.drewN_drewN _ _ _⟩ | exact ⟨rfl, _, Eq.trans (World.drewN_drewN _ _ _) (congrArg (World.drewN _) (Nat.add_assoc _ _ _))⟩)) | (go_at_call 32; (with_reducible refine (stoaref05_Greatest.calls a0 t224 _ A22.out).mono ?_); rintro e w' ⟨rfl, ⟨nd, rfl⟩⟩; (try first | exact ⟨rfl, _, World.drewN_drewN _ _ _⟩ | exact ⟨rfl, _, Eq.trans (World.drewN_drewN _ _ _) (congrArg (World.drewN _) (Nat.add_assoc _ _ _))⟩))))
                  go_ret
                  exact ⟨by first | rfl | (simp [errW_none, errW_some] <;> rfl) | (simp [*, errW_none, errW_some] <;> rfl), by repeat (first | (with_reducible first | exact HB.out | apply below_alloc | apply pw_below_drewN | apply below_drew1 | refine below_set ?_ GE222.out) | exact HB.out)⟩
                · rw [if_neg c23] at H
                  have c23b0 : decide (t224 < a2_1) = false := decide_eq_false c23
                  clear c23
                  obtain rfl := Option.some.inj H
                  have hcz25_0 : wc.cell? ⟨gb222, 0, none⟩ = some (.bool false) := (blk_cell BK222.out 0).trans rfl
                  have hcz25_1 : wc.cell? ⟨gb222, 1, none⟩ = some (.int .i64 a2_1) := (blk_cell BK222.out 1).trans rfl
                  have hcz25_2 : wc.cell? ⟨gb222, 2, none⟩ = some (.slice A2_2 l2_2.length c2_2) := (blk_cell BK222.out 2).trans rfl
                  have hfz25_0 := blk_frozen BK222.out 0
                  have hfz25_1 := blk_frozen BK222.out 1
                  have hfz25_2 := blk_frozen BK222.out 2
                  go_wp2_with (first | (go_at_call 31; (with_reducible refine (stoaref05_Least.calls a0 t223 _ A19.out).mono ?_); rintro e w' ⟨rfl, ⟨nd, rfl⟩⟩; (try first | exact ⟨rfl, _, World.drewN_drewN _ _ _⟩ | exact ⟨rfl, _, Eq.trans (World.drewN_drewN _ _ _) (congrArg (World.drewN _) (Nat.add_assoc _ _ _))⟩)) | (go_at_call 32; (with_reducible refine (stoaref05_Greatest.calls a0 t224 _ A22.out).mono ?_); rintro e w' ⟨rfl, ⟨nd, rfl⟩⟩; (try first | exact ⟨rfl, _, World.drewN_drewN _ _ _⟩ | exact ⟨rfl, _, Eq.trans (World.drewN_drewN _ _ _) (congrArg (World.drewN _) (Nat.add_assoc _ _ _))⟩)))
                  repeat (go_quiet (first | (go_at_call 31; (with_reducible refine (stoaref05_Least.calls a0 t223 _ A19.out).mono ?_); rintro e w' ⟨rfl, ⟨nd, rfl⟩⟩; (try first | exact ⟨rfl, _, World.drewN_drewN _ _ _⟩ | exact ⟨rfl, _, Eq.trans (World.drewN_drewN _ _ _) (congrArg (World.drewN _) (Nat.add_assoc _ _ _))⟩)) | (go_at_call 32; (with_reducible refine (stoaref05_Greatest.calls a0 t224 _ A22.out).mono ?_); rintro e w' ⟨rfl, ⟨nd, rfl⟩⟩; (try first | exact ⟨rfl, _, World.drewN_drewN _ _ _⟩ | exact ⟨rfl, _, Eq.trans (World.drewN_drewN _ _ _) (congrArg (World.drewN _) (Nat.add_assoc _ _ _))⟩))); try go_wp2_with (first | (go_at_call 31; (with_reducible refine (stoaref05_Least.calls a0 t223 _ A19.out).mono ?_); rintro e w' ⟨rfl, ⟨nd, rfl⟩⟩; (try first | exact ⟨rfl, _, World.drewN_drewN _ _ _⟩ | exact ⟨rfl, _, Eq.trans (World.drewN_drewN _ _ _) (congrArg (World.drewN _) (Nat.add_assoc _ _ _))⟩)) | (go_at_call 32; (with_reducible refine (stoaref05_Greatest.calls a0 t224 _ A22.out).mono ?_); rintro e w' ⟨rfl, ⟨nd, rfl⟩⟩; (try first | exact ⟨rfl, _, World.drewN_drewN _ _ _⟩ | exact ⟨rfl, _, Eq.trans (World.drewN_drewN _ _ _) (congrArg (World.drewN _) (Nat.add_assoc _ _ _))⟩))))
                  go_ret
                  exact ⟨by first | rfl | (simp [errW_none, errW_some] <;> rfl) | (simp [*, errW_none, errW_some] <;> rfl), by repeat (first | (with_reducible first | exact HB.out | apply below_alloc | apply pw_below_drewN | apply below_drew1 | refine below_set ?_ GE222.out) | exact HB.out)⟩
          · rw [if_neg c16] at H
            have c16b0 : decide (a0 ≤ 6) = false := decide_eq_false c16
            clear c16
            by_cases c26 : a2_1 = 0
            · rw [if_pos c26] at H
              have c26b0 : (a2_1 == 0) = true := beq_iff_eq.mpr c26
              have c26b1 : (a2_1 != 0) = false := bne_eq_false_iff_eq.mpr c26
              clear c26
              by_cases c27 : (l2_2.length : Int) > 200
              · rw [if_pos c27] at H
                have c27b0 : decide (200 < (l2_2.length : Int)) = true := decide_eq_true c27
                have c27b1 : decide (200 < l2_2.length) = true := decide_eq_true (by omega)
                clear c27
                obtain rfl := Option.some.inj H
                have hcz28_0 : wc.cell? ⟨gb222, 0, none⟩ = some (.bool false) := (blk_cell BK222.out 0).trans rfl
                have hcz28_1 : wc.cell? ⟨gb222, 1, none⟩ = some (.int .i64 a2_1) := (blk_cell BK222.out 1).trans rfl
                have hcz28_2 : wc.cell? ⟨gb222, 2, none⟩ = some (.slice A2_2 l2_2.length c2_2) := (blk_cell BK222.out 2).trans rfl
                have hfz28_0 := blk_frozen BK222.out 0
                have hfz28_1 := blk_frozen BK222.out 1
                have hfz28_2 := blk_frozen BK222.out 2
                go_wp2
                repeat (go_quiet (fail); try go_wp2)
                go_ret
                exact ⟨by first | rfl | (simp [errW_none, errW_some] <;> rfl) | (simp [*, errW_none, errW_some] <;> rfl), by repeat (first | (with_reducible first | exact HB.out | apply below_alloc | apply pw_below_drewN | apply below_drew1 | refine below_set ?_ GE222.out) | exact HB.out)⟩
              · rw [if_neg c27] at H
                have c27b0 : decide (200 < (l2_2.length : Int)) = false := decide_eq_false c27
                have c27b1 : decide (200 < l2_2.length) = false := decide_eq_false (by omega)
                clear c27
                by_cases c29 : a0 = 7
                · rw [if_pos c29] at H
                  have c29b0 : (a0 == 7) = true := beq_iff_eq.mpr c29
                  have c29b1 : (a0 != 7) = false := bne_eq_false_iff_eq.mpr c29
                  clear c29
                  replace H := Option.bind_eq_some_iff.mp H
                  obtain ⟨t225, A300, H⟩ := H
                  replace H : (if t225 = true then (some 5) else (some 0)) = some r := H
                  have A30 := Aside0.mk A300
                  clear A300
                  by_cases c31 : t225 = true
                  · subst c31
                    have H1 : (some 5) = some r := by rw [if_pos rfl] at H; exact H
                    clear H
                    have H := H1
                    clear H1
                    obtain rfl := Option.some.inj H
                    have hcz32_0 : wc.cell? ⟨gb222, 0, none⟩ = some (.bool false) := (blk_cell BK222.out 0).trans rfl
                    have hcz32_1 : wc.cell? ⟨gb222, 1, none⟩ = some (.int .i64 a2_1) := (blk_cell BK222.out 1).trans rfl
                    have hcz32_2 : wc.cell? ⟨gb222, 2, none⟩ = some (.slice A2_2 l2_2.length c2_2) := (blk_cell BK222.out 2).trans rfl
                    have hfz32_0 := blk_frozen BK222.out 0
                    have hfz32_1 := blk_frozen BK222.out 1
                    have hfz32_2 := blk_frozen BK222.out 2
                    go_wp2_with (first | (go_at_call 33; (with_reducible refine (stoaref05_Zero.calls kj3 _ _ l2_2 true _ ?side1 ?side2 A30.out).mono ?_); (case side1 => repeat (first | exact (Kd.C_below HR2_2.out HB.out) | (with_reducible refine Kd.C_alloc ?_ _) | (with_reducible refine Kd.C_drewN ?_ _) | (with_reducible refine Kd.C_drew ?_))); (case side2 => exact HC2_2.out); rintro e w' ⟨rfl, ⟨nd, rfl⟩⟩; (try first | exact ⟨rfl, _, World.drewN_drewN _ _ _⟩ | exact ⟨rfl, _, Eq.trans (World.drewN_drewN _ _ _) (congrArg (World.drewN _) (Nat.add_assoc _ _ _))⟩)))
                    repeat (go_quiet (first | (go_at_call 33; (with_reducible refine (stoaref05_Zero.calls kj3 _ _ l2_2 true _ ?side1 ?side2 A30.out).mono ?_); (case side1 => repeat (first | exact (Kd.C_below HR2_2.out HB.out) | (with_reducible refine Kd.C_alloc ?_ _) | (with_reducible refine Kd.C_drewN ?_ _) | (with_reducible refine Kd.C_drew ?_))); (case side2 => exact HC2_2.out); rintro e w' ⟨rfl, ⟨nd, rfl⟩⟩; (try first | exact ⟨rfl, _, World.drewN_drewN _ _ _⟩ | exact ⟨rfl, _, Eq.trans (World.drewN_drewN _ _ _) (congrArg (World.drewN _) (Nat.add_assoc _ _ _))⟩))); try go_wp2_with (first | (go_at_call 33; (with_reducible refine (stoaref05_Zero.calls kj3 _ _ l2_2 true _ ?side1 ?side2 A30.out).mono ?_); (case side1 => repeat (first | exact (Kd.C_below HR2_2.out HB.out) | (with_reducible refine Kd.C_alloc ?_ _) | (with_reducible refine Kd.C_drewN ?_ _) | (with_reducible refine Kd.C_drew ?_))); (case side2 => exact HC2_2.out); rintro e w' ⟨rfl, ⟨nd, rfl⟩⟩; (try first | exact ⟨rfl, _, World.drewN_drewN _ _ _⟩ | exact ⟨rfl, _, Eq.trans (World.drewN_drewN _ _ _) (congrArg (World.drewN _) (Nat.add_assoc _ _ _))⟩))))
                    go_ret
                    exact ⟨by first | rfl | (simp [errW_none, errW_some] <;> rfl) | (simp [*, errW_none, errW_some] <;> rfl), by repeat (first | (with_reducible first | exact HB.out | apply below_alloc | apply pw_below_drewN | apply below_drew1 | refine below_set ?_ GE222.out) | exact HB.out)⟩
                  · replace c31 := Bool.eq_false_iff.mpr c31
                    subst c31
                    have H1 : (some 0) = some r := by rw [if_neg (show ¬ (false = true) by decide)] at H; exact H
                    clear H
                    have H := H1
                    clear H1
                    obtain rfl := Option.some.inj H
                    have hcz33_0 : wc.cell? ⟨gb222, 0, none⟩ = some (.bool false) := (blk_cell BK222.out 0).trans rfl
                    have hcz33_1 : wc.cell? ⟨gb222, 1, none⟩ = some (.int .i64 a2_1) := (blk_cell BK222.out 1).trans rfl
                    have hcz33_2 : wc.cell? ⟨gb222, 2, none⟩ = some (.slice A2_2 l2_2.length c2_2) := (blk_cell BK222.out 2).trans rfl
                    have hfz33_0 := blk_frozen BK222.out 0
                    have hfz33_1 := blk_frozen BK222.out 1
                    have hfz33_2 := blk_frozen BK222.out 2
                    go_wp2_with (first | (go_at_call 33; (with_reducible refine (stoaref05_Zero.calls kj3 _ _ l2_2 false _ ?side1 ?side2 A30.out).mono ?_); (case side1 => repeat (first | exact (Kd.C_below HR2_2.out HB.out) | (with_reducible refine Kd.C_alloc ?_ _) | (with_reducible refine Kd.C_drewN ?_ _) | (with_reducible refine Kd.C_drew ?_))); (case side2 => exact HC2_2.out); rintro e w' ⟨rfl, ⟨nd, rfl⟩⟩; (try first | exact ⟨rfl, _, World.drewN_drewN _ _ _⟩ | exact ⟨rfl, _, Eq.trans (World.drewN_drewN _ _ _) (congrArg (World.drewN _) (Nat.add_assoc _ _ _))⟩)))
                    repeat (go_quiet (first | (go_at_call 33; (with_reducible refine (stoaref05_Zero.calls kj3 _ _ l2_2 false _ ?side1 ?side2 A30.out).mono ?_); (case side1 => repeat (first | exact (Kd.C_below HR2_2.out HB.out) | (with_reducible refine Kd.C_alloc ?_ _) | (with_reducible refine Kd.C_drewN ?_ _) | (with_reducible refine Kd.C_drew ?_))); (case side2 => exact HC2_2.out); rintro e w' ⟨rfl, ⟨nd, rfl⟩⟩; (try first | exact ⟨rfl, _, World.drewN_drewN _ _ _⟩ | exact ⟨rfl, _, Eq.trans (World.drewN_drewN _ _ _) (congrArg (World.drewN _) (Nat.add_assoc _ _ _))⟩))); try go_wp2_with (first | (go_at_call 33; (with_reducible refine (stoaref05_Zero.calls kj3 _ _ l2_2 false _ ?side1 ?side2 A30.out).mono ?_); (case side1 => repeat (first | exact (Kd.C_below HR2_2.out HB.out) | (with_reducible refine Kd.C_alloc ?_ _) | (with_reducible refine Kd.C_drewN ?_ _) | (with_reducible refine Kd.C_drew ?_))); (case side2 => exact HC2_2.out); rintro e w' ⟨rfl, ⟨nd, rfl⟩⟩; (try first | exact ⟨rfl, _, World.drewN_drewN _ _ _⟩ | exact ⟨rfl, _, Eq.trans (World.drewN_drewN _ _ _) (congrArg (World.drewN _) (Nat.add_assoc _ _ _))⟩))))
                    go_ret
                    exact ⟨by first | rfl | (simp [errW_none, errW_some] <;> rfl) | (simp [*, errW_none, errW_some] <;> rfl), by repeat (first | (with_reducible first | exact HB.out | apply below_alloc | apply pw_below_drewN | apply below_drew1 | refine below_set ?_ GE222.out) | exact HB.out)⟩
                · rw [if_neg c29] at H
                  have c29b0 : (a0 == 7) = false := beq_eq_false_iff_ne.mpr c29
                  have c29b1 : (a0 != 7) = true := bne_iff_ne.mpr c29
                  obtain rfl := Option.some.inj H
                  have hcz34_0 : wc.cell? ⟨gb222, 0, none⟩ = some (.bool false) := (blk_cell BK222.out 0).trans rfl
                  have hcz34_1 : wc.cell? ⟨gb222, 1, none⟩ = some (.int .i64 a2_1) := (blk_cell BK222.out 1).trans rfl
                  have hcz34_2 : wc.cell? ⟨gb222, 2, none⟩ = some (.slice A2_2 l2_2.length c2_2) := (blk_cell BK222.out 2).trans rfl
                  have hfz34_0 := blk_frozen BK222.out 0
                  have hfz34_1 := blk_frozen BK222.out 1
                  have hfz34_2 := blk_frozen BK222.out 2
                  go_wp2
                  repeat (go_quiet (fail); try go_wp2)
                  go_ret
                  exact ⟨by first | rfl | (simp [errW_none, errW_some] <;> rfl) | (simp [*, errW_none, errW_some] <;> rfl), by repeat (first | (with_reducible first | exact HB.out | apply below_alloc | apply pw_below_drewN | apply below_drew1 | refine below_set ?_ GE222.out) | exact HB.out)⟩
            · rw [if_neg c26] at H
              have c26b0 : (a2_1 == 0) = false := beq_eq_false_iff_ne.mpr c26
              have c26b1 : (a2_1 != 0) = true := bne_iff_ne.mpr c26
              obtain rfl := Option.some.inj H
              have hcz35_0 : wc.cell? ⟨gb222, 0, none⟩ = some (.bool false) := (blk_cell BK222.out 0).trans rfl
              have hcz35_1 : wc.cell? ⟨gb222, 1, none⟩ = some (.int .i64 a2_1) := (blk_cell BK222.out 1).trans rfl
              have hcz35_2 : wc.cell? ⟨gb222, 2, none⟩ = some (.slice A2_2 l2_2.length c2_2) := (blk_cell BK222.out 2).trans rfl
              have hfz35_0 := blk_frozen BK222.out 0
              have hfz35_1 := blk_frozen BK222.out 1
              have hfz35_2 := blk_frozen BK222.out 2
              go_wp2
              repeat (go_quiet (fail); try go_wp2)
              go_ret
              exact ⟨by first | rfl | (simp [errW_none, errW_some] <;> rfl) | (simp [*, errW_none, errW_some] <;> rfl), by repeat (first | (with_reducible first | exact HB.out | apply below_alloc | apply pw_below_drewN | apply below_drew1 | refine below_set ?_ GE222.out) | exact HB.out)⟩

/-! ### stoaref05_Order: function 53 -/
mutual
def stoaref05_Order.l0 : Nat → List Int → List Int → Int → Option (Int)
  | 0, _, _, _ => none
  | k + 1, x0, x1, x5 => if x5 < (x0.length : Int) then (stoaref05_Order.j1 k x0 x1 x5 (decide (x5 < (x1.length : Int)))) else (stoaref05_Order.j1 k x0 x1 x5 false)
def stoaref05_Order.j1 : Nat → List Int → List Int → Int → Bool → Option (Int)
  | 0, _, _, _, _ => none
  | k + 1, x0, x1, x5, x15 => if x15 = true then (if 0 ≤ x5 then (if x5 < (x0.length : Int) then (if x5 < (x1.length : Int) then (if (rd x0 x5) < (rd x1 x5) then (some (-1)) else (if (rd x0 x5) > (rd x1 x5) then (some 1) else (stoaref05_Order.l0 k x0 x1 (wrap64 (x5 + 1))))) else (none)) else (none)) else (none)) else (if (x0.length : Int) < (x1.length : Int) then (some (-1)) else (if (x0.length : Int) > (x1.length : Int) then (some 1) else (some 0)))
end
def stoaref05_Order.f (k : Nat) (l0 : List Int) (l1 : List Int) : Option (Int) := stoaref05_Order.l0 k l0 l1 0
theorem stoaref05_Order.mono_l : ∀ k, (∀ y0 y1 y2, LeO (stoaref05_Order.l0 k y0 y1 y2) (stoaref05_Order.l0 (k + 1) y0 y1 y2)) ∧ (∀ y0 y1 y2 y3, LeO (stoaref05_Order.j1 k y0 y1 y2 y3) (stoaref05_Order.j1 (k + 1) y0 y1 y2 y3))
  | 0 => ⟨fun _ _ _ r h => by simp [stoaref05_Order.l0] at h, fun _ _ _ _ r h => by simp [stoaref05_Order.j1] at h⟩
  | k + 1 => by
    obtain ⟨ih0, ih1⟩ := stoaref05_Order.mono_l k
    refine ⟨?_, ?_⟩
    · intro y0 y1 y2
      unfold stoaref05_Order.l0
      repeat' first
      | (with_reducible exact ih0 _ _ _)
      | (with_reducible exact ih1 _ _ _ _)
      | (with_reducible exact LeO.refl _)
      | (with_reducible exact LeO.none _)
      | (with_reducible refine LeO.ite ?_ ?_)
      | (with_reducible refine LeO.bind ?_ (fun _ => ?_))
      | exact ih0 _ _ _
      | exact ih1 _ _ _ _
      | exact LeO.none _
      | refine LeO.ite ?_ ?_
      | refine LeO.bind ?_ (fun _ => ?_)
    · intro y0 y1 y2 y3
      unfold stoaref05_Order.j1
      repeat' first
      | (with_reducible exact ih0 _ _ _)
      | (with_reducible exact ih1 _ _ _ _)
      | (with_reducible exact LeO.refl _)
      | (with_reducible exact LeO.none _)
      | (with_reducible refine LeO.ite ?_ ?_)
      | (with_reducible refine LeO.bind ?_ (fun _ => ?_))
      | exact ih0 _ _ _
      | exact ih1 _ _ _ _
      | exact LeO.none _
      | refine LeO.ite ?_ ?_
      | refine LeO.bind ?_ (fun _ => ?_)
theorem stoaref05_Order.mono : ∀ a0 a1 k, LeO (stoaref05_Order.f k a0 a1) (stoaref05_Order.f (k + 1) a0 a1) := by
  intro a0 a1 k
  obtain ⟨ih0, ih1⟩ := stoaref05_Order.mono_l k
  unfold stoaref05_Order.f
  repeat' first
      | (with_reducible exact ih0 _ _ _)
      | (with_reducible exact ih1 _ _ _ _)
      | (with_reducible exact LeO.refl _)
      | (with_reducible exact LeO.none _)
      | (with_reducible refine LeO.ite ?_ ?_)
      | (with_reducible refine LeO.bind ?_ (fun _ => ?_))
      | exact ih0 _ _ _
      | exact ih1 _ _ _ _
      | exact LeO.none _
      | refine LeO.ite ?_ ?_
      | refine LeO.bind ?_ (fun _ => ?_)
set_option maxHeartbeats 8000000 in
set_option maxRecDepth 100000 in
theorem stoaref05_Order.calls (k : Nat) (A0 : Option Addr) (c0 : Nat) (l0 : List Int) (A1 : Option Addr) (c1 : Nat) (l1 : List Int) (r : Int) (w : World) (hr0 : Kd.C (Kd.int .u8) w A0 l0.length l0) (hc0 : l0.length ≤ c0) (hr1 : Kd.C (Kd.int .u8) w A1 l1.length l1) (hc1 : l1.length ≤ c1) (h : stoaref05_Order.f k l0 l1 = some r) :
    Calls Try.prog 53 #[.slice A0 l0.length c0, .slice A1 l1.length c1] w fun e w' => e = .returned (.int .i64 r) ∧ Drawn0 w w' := by
  have HR0 := Aside0.mk hr0
  have HC0 := Aside0.mk hc0
  clear hr0 hc0
  have HR1 := Aside0.mk hr1
  have HC1 := Aside0.mk hc1
  clear hr1 hc1
  have H : (stoaref05_Order.l0 k l0 l1 0) = some r := h
  clear h
  have H' := Aside0.mk H
  clear H
  go_enter Try.func53, Try.ntmps53
  go_wp2
  repeat (go_quiet (fail); try go_wp2)
  go_loopg [5] k (fun kq v5 w' => ∃ (x5_1 : Int), v5 = .int .i64 x5_1 ∧ Aside0 (stoaref05_Order.l0 kq l0 l1 x5_1 = some r) ∧ Aside0 (kq ≤ k) ∧ Drawn0 w w')
  case atStart => exact ⟨(0), (by first | rfl | (simp; done) | (simp [*]; done)), H', ⟨Nat.le_refl _⟩, by repeat (first | exact Drawn0.refl _ | apply Drawn0.step)⟩
  case round =>
    clear H'
    try clear c1
    try clear p2
    obtain ⟨x5_1, rfl, HA, HK1, ⟨m1, rfl⟩⟩ := hrel
    cases gk with
    | zero => exact absurd HA.out (by simp [stoaref05_Order.l0])
    | succ k1 =>
      have H := HA.out
      clear HA
      simp only [stoaref05_Order.l0] at H
      have HC3 := Aside0.mk H
      clear H
      go_upto_region 2 with (fail)
      repeat (go_quiet (fail); go_upto_region 2 with (fail))
      go_cut [15] (fun v15 wc => ∃ (kq : Nat) (x15_2 : Bool), v15 = .bool x15_2 ∧ Aside0 (stoaref05_Order.j1 kq l0 l1 x5_1 x15_2 = some r) ∧ Aside0 (kq ≤ k1) ∧ Drawn0 w wc)
      case first =>
        have H := HC3.out
        clear HC3
        by_cases c4 : x5_1 < (l0.length : Int)
        · rw [if_pos c4] at H
          have c4b0 : decide (x5_1 < (l0.length : Int)) = true := decide_eq_true c4
          clear c4
          (first | rw [c4b0] | (simp only [i64_w, i32_w]; rw [c4b0]) | skip)
          have H' := Aside0.mk H
          clear H
          go_wp2
          repeat (go_quiet (fail); try go_wp2)
          go_meet
          case rel => exact ⟨_, (decide (x5_1 < (l1.length : Int))), (by first | rfl | (simp; done) | (simp [*]; done)), H', ⟨by have := HK1.out; first | omega | exact Nat.le_refl _⟩, by repeat (first | exact Drawn0.refl _ | apply Drawn0.step)⟩
        · rw [if_neg c4] at H
          have c4b0 : decide (x5_1 < (l0.length : Int)) = false := decide_eq_false c4
          clear c4
          (first | rw [c4b0] | (simp only [i64_w, i32_w]; rw [c4b0]) | skip)
          have H' := Aside0.mk H
          clear H
          go_wp2
          repeat (go_quiet (fail); try go_wp2)
          go_meet
          case rel => exact ⟨_, (false), (by first | rfl | (simp; done) | (simp [*]; done)), H', ⟨by have := HK1.out; first | omega | exact Nat.le_refl _⟩, by repeat (first | exact Drawn0.refl _ | apply Drawn0.step)⟩
      case rest =>
        clear HC3
        try clear c1
        try clear p2
        try clear c4
        try clear c4b0
        try clear p2
        obtain ⟨kq, x15_2, rfl, HA, HJ2, ⟨mc2, rfl⟩⟩ := hcut
        cases kq with
        | zero => exact absurd HA.out (by simp [stoaref05_Order.j1])
        | succ kj2 =>
          have H := HA.out
          clear HA
          simp only [stoaref05_Order.j1] at H
          by_cases c5 : x15_2 = true
          · subst c5
            have H1 : (if 0 ≤ x5_1 then (if x5_1 < (l0.length : Int) then (if x5_1 < (l1.length : Int) then (if (rd l0 x5_1) < (rd l1 x5_1) then (some (-1)) else (if (rd l0 x5_1) > (rd l1 x5_1) then (some 1) else (stoaref05_Order.l0 kj2 l0 l1 (wrap64 (x5_1 + 1))))) else (none)) else (none)) else (none)) = some r := by rw [if_pos rfl] at H; exact H
            clear H
            have H := H1
            clear H1
            by_cases c6 : 0 ≤ x5_1
            · rw [if_pos c6] at H
              have c6b0 : decide (0 ≤ x5_1) = true := decide_eq_true c6
              clear c6
              by_cases c7 : x5_1 < (l0.length : Int)
              · rw [if_pos c7] at H
                have c7b0 : decide (x5_1 < (l0.length : Int)) = true := decide_eq_true c7
                clear c7
                by_cases c8 : x5_1 < (l1.length : Int)
                · rw [if_pos c8] at H
                  have c8b0 : decide (x5_1 < (l1.length : Int)) = true := decide_eq_true c8
                  clear c8
                  by_cases c9 : (rd l0 x5_1) < (rd l1 x5_1)
                  · rw [if_pos c9] at H
                    have c9b0 : decide ((rd l0 x5_1) < (rd l1 x5_1)) = true := decide_eq_true c9
                    clear c9
                    obtain rfl := Option.some.inj H
                    have p226 : 0 ≤ (x5_1 : Int) := of_decide_eq_true (by first | (with_reducible assumption) | assumption)
                    have q226 : x5_1 < (l0.length : Int) := of_decide_eq_true (by first | (with_reducible assumption) | assumption)
                    obtain ⟨ad226, e226, hx226_0⟩ := Kd.at_int HR0.out x5_1 p226 q226
                    cases e226
                    replace p226 := eq_true p226
                    replace q226 := eq_true q226
                    have p227 : 0 ≤ (x5_1 : Int) := of_decide_eq_true (by first | (with_reducible assumption) | assumption)
                    have q227 : x5_1 < (l1.length : Int) := of_decide_eq_true (by first | (with_reducible assumption) | assumption)
                    obtain ⟨ad227, e227, hx227_0⟩ := Kd.at_int HR1.out x5_1 p227 q227
                    cases e227
                    replace p227 := eq_true p227
                    replace q227 := eq_true q227
                    go_wp2
                    repeat (go_quiet (fail); try go_wp2)
                    go_ret
                    exact ⟨by first | rfl | (simp; done) | (simp [*]; done), by repeat (first | exact Drawn0.refl _ | apply Drawn0.step)⟩
                  · rw [if_neg c9] at H
                    have c9b0 : decide ((rd l0 x5_1) < (rd l1 x5_1)) = false := decide_eq_false c9
                    clear c9
                    by_cases c10 : (rd l0 x5_1) > (rd l1 x5_1)
                    · rw [if_pos c10] at H
                      have c10b0 : decide ((rd l1 x5_1) < (rd l0 x5_1)) = true := decide_eq_true c10
                      clear c10
                      obtain rfl := Option.some.inj H
                      have p226 : 0 ≤ (x5_1 : Int) := of_decide_eq_true (by first | (with_reducible assumption) | assumption)
                      have q226 : x5_1 < (l0.length : Int) := of_decide_eq_true (by first | (with_reducible assumption) | assumption)
                      obtain ⟨ad226, e226, hx226_0⟩ := Kd.at_int HR0.out x5_1 p226 q226
                      cases e226
                      replace p226 := eq_true p226
                      replace q226 := eq_true q226
                      have p227 : 0 ≤ (x5_1 : Int) := of_decide_eq_true (by first | (with_reducible assumption) | assumption)
                      have q227 : x5_1 < (l1.length : Int) := of_decide_eq_true (by first | (with_reducible assumption) | assumption)
                      obtain ⟨ad227, e227, hx227_0⟩ := Kd.at_int HR1.out x5_1 p227 q227
                      cases e227
                      replace p227 := eq_true p227
                      replace q227 := eq_true q227
                      have p228 : 0 ≤ (x5_1 : Int) := of_decide_eq_true (by first | (with_reducible assumption) | assumption)
                      have q228 : x5_1 < (l0.length : Int) := of_decide_eq_true (by first | (with_reducible assumption) | assumption)
                      obtain ⟨ad228, e228, hx228_0⟩ := Kd.at_int HR0.out x5_1 p228 q228
                      obtain rfl : ad226 = ad228 := (by injection e228)
                      replace p228 := eq_true p228
                      replace q228 := eq_true q228
                      have p229 : 0 ≤ (x5_1 : Int) := of_decide_eq_true (by first | (with_reducible assumption) | assumption)
                      have q229 : x5_1 < (l1.length : Int) := of_decide_eq_true (by first | (with_reducible assumption) | assumption)
                      obtain ⟨ad229, e229, hx229_0⟩ := Kd.at_int HR1.out x5_1 p229 q229
                      obtain rfl : ad227 = ad229 := (by injection e229)
                      replace p229 := eq_true p229
                      replace q229 := eq_true q229
                      go_wp2
                      repeat (go_quiet (fail); try go_wp2)
                      go_ret
                      exact ⟨by first | rfl | (simp; done) | (simp [*]; done), by repeat (first | exact Drawn0.refl _ | apply Drawn0.step)⟩
                    · rw [if_neg c10] at H
                      have c10b0 : decide ((rd l1 x5_1) < (rd l0 x5_1)) = false := decide_eq_false c10
                      clear c10
                      have H' := Aside0.mk H
                      clear H
                      have p226 : 0 ≤ (x5_1 : Int) := of_decide_eq_true (by first | (with_reducible assumption) | assumption)
                      have q226 : x5_1 < (l0.length : Int) := of_decide_eq_true (by first | (with_reducible assumption) | assumption)
                      obtain ⟨ad226, e226, hx226_0⟩ := Kd.at_int HR0.out x5_1 p226 q226
                      cases e226
                      replace p226 := eq_true p226
                      replace q226 := eq_true q226
                      have p227 : 0 ≤ (x5_1 : Int) := of_decide_eq_true (by first | (with_reducible assumption) | assumption)
                      have q227 : x5_1 < (l1.length : Int) := of_decide_eq_true (by first | (with_reducible assumption) | assumption)
                      obtain ⟨ad227, e227, hx227_0⟩ := Kd.at_int HR1.out x5_1 p227 q227
                      cases e227
                      replace p227 := eq_true p227
                      replace q227 := eq_true q227
                      have p228 : 0 ≤ (x5_1 : Int) := of_decide_eq_true (by first | (with_reducible assumption) | assumption)
                      have q228 : x5_1 < (l0.length : Int) := of_decide_eq_true (by first | (with_reducible assumption) | assumption)
                      obtain ⟨ad228, e228, hx228_0⟩ := Kd.at_int HR0.out x5_1 p228 q228
                      obtain rfl : ad226 = ad228 := (by injection e228)
                      replace p228 := eq_true p228
                      replace q228 := eq_true q228
                      have p229 : 0 ≤ (x5_1 : Int) := of_decide_eq_true (by first | (with_reducible assumption) | assumption)
                      have q229 : x5_1 < (l1.length : Int) := of_decide_eq_true (by first | (with_reducible assumption) | assumption)
                      obtain ⟨ad229, e229, hx229_0⟩ := Kd.at_int HR1.out x5_1 p229 q229
                      obtain rfl : ad227 = ad229 := (by injection e229)
                      replace p229 := eq_true p229
                      replace q229 := eq_true q229
                      go_wp2
                      repeat (go_quiet (fail); try go_wp2)
                      go_roundg kj2
                      case measure => have := HK1.out; have := HJ2.out; omega
                      case rel => exact ⟨(wrap64 (x5_1 + 1)), (by first | rfl | (simp; done) | (simp [*]; done)), H', ⟨by have := HK1.out; have := HJ2.out; omega⟩, by repeat (first | exact Drawn0.refl _ | apply Drawn0.step)⟩
                · rw [if_neg c8] at H
                  exact absurd H (by simp)
              · rw [if_neg c7] at H
                exact absurd H (by simp)
            · rw [if_neg c6] at H
              exact absurd H (by simp)
          · replace c5 := Bool.eq_false_iff.mpr c5
            subst c5
            have H1 : (if (l0.length : Int) < (l1.length : Int) then (some (-1)) else (if (l0.length : Int) > (l1.length : Int) then (some 1) else (some 0))) = some r := by rw [if_neg (show ¬ (false = true) by decide)] at H; exact H
            clear H
            have H := H1
            clear H1
            by_cases c11 : (l0.length : Int) < (l1.length : Int)
            · rw [if_pos c11] at H
              have c11b0 : decide ((l0.length : Int) < (l1.length : Int)) = true := decide_eq_true c11
              have c11b1 : decide (l0.length < l1.length) = true := decide_eq_true (Int.ofNat_lt.mp c11)
              clear c11
              obtain rfl := Option.some.inj H
              go_wp2
              repeat (go_quiet (fail); try go_wp2)
              go_ret
              exact ⟨by first | rfl | (simp; done) | (simp [*]; done), by repeat (first | exact Drawn0.refl _ | apply Drawn0.step)⟩
            · rw [if_neg c11] at H
              have c11b0 : decide ((l0.length : Int) < (l1.length : Int)) = false := decide_eq_false c11
              have c11b1 : decide (l0.length < l1.length) = false := decide_eq_false (fun h => c11 (Int.ofNat_lt.mpr h))
              clear c11
              by_cases c12 : (l0.length : Int) > (l1.length : Int)
              · rw [if_pos c12] at H
                have c12b0 : decide ((l1.length : Int) < (l0.length : Int)) = true := decide_eq_true c12
                have c12b1 : decide (l1.length < l0.length) = true := decide_eq_true (Int.ofNat_lt.mp c12)
                clear c12
                obtain rfl := Option.some.inj H
                go_wp2
                repeat (go_quiet (fail); try go_wp2)
                go_ret
                exact ⟨by first | rfl | (simp; done) | (simp [*]; done), by repeat (first | exact Drawn0.refl _ | apply Drawn0.step)⟩
              · rw [if_neg c12] at H
                have c12b0 : decide ((l1.length : Int) < (l0.length : Int)) = false := decide_eq_false c12
                have c12b1 : decide (l1.length < l0.length) = false := decide_eq_false (fun h => c12 (Int.ofNat_lt.mpr h))
                clear c12
                obtain rfl := Option.some.inj H
                go_wp2
                repeat (go_quiet (fail); try go_wp2)
                go_ret
                exact ⟨by first | rfl | (simp; done) | (simp [*]; done), by repeat (first | exact Drawn0.refl _ | apply Drawn0.step)⟩

end Go.Proofs.Ytaibfjipombilaa.PCellOrders

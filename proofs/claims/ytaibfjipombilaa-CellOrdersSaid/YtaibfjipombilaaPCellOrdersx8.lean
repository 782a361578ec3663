-- written by this session's own printing program (myprint.sh)
import Derived.Test.YtaibfjipombilaaPCellOrdersx0
import Derived.Test.YtaibfjipombilaaPCellOrdersx7
namespace Go.Proofs.Ytaibfjipombilaa.PCellOrders
open Go.RowKit Go.Proofs.YtaibfjipombilaaW.PrintWords Go.Proofs.YtaibfjipombilaaW.PrintLast Go.Proofs.YtaibfjipombilaaW.PrintMore
attribute [local go_sem] max2_int min2_int max_two min_two max_three min_three max_four min_four   -- for this text's walks alone
set_option linter.unusedVariables false
set_option linter.unusedSimpArgs false

/-! ### stoaref05_Rank: function 48 -/
mutual
def stoaref05_Rank.j0 : Nat → Bool → Bool → Int → List Int → Bool → Int → List Int → Option (Int)
  | 0, _, _, _, _, _, _, _ => none
  | k + 1, x10, x231000, x231001, x231002, x232000, x232001, x232002 => if x10 = true then (if x231000 = true then (stoaref05_Rank.j1 k x232000 x231000 x231001 x231002) else (stoaref05_Rank.j1 k false x231000 x231001 x231002)) else (if x231001 < x232001 then (some (-1)) else (if x231001 > x232001 then (some 1) else ((stoaref05_Order.f k x231002 x232002).bind fun t232 => (some t232))))
def stoaref05_Rank.j1 : Nat → Bool → Bool → Int → List Int → Option (Int)
  | 0, _, _, _, _ => none
  | k + 1, x16, x231000, x231001, x231002 => if x16 = true then (some 0) else (if x231000 = true then (some (-1)) else (some 1))
end
def stoaref05_Rank.f (k : Nat) (a0_0 : Bool) (a0_1 : Int) (l0_2 : List Int) (a1_0 : Bool) (a1_1 : Int) (l1_2 : List Int) : Option (Int) := if a0_0 = true then (stoaref05_Rank.j0 k true a0_0 a0_1 l0_2 a1_0 a1_1 l1_2) else (stoaref05_Rank.j0 k a1_0 a0_0 a0_1 l0_2 a1_0 a1_1 l1_2)
theorem stoaref05_Rank.mono_l : ∀ k, (∀ y0 y1 y2 y3 y4 y5 y6, LeO (stoaref05_Rank.j0 k y0 y1 y2 y3 y4 y5 y6) (stoaref05_Rank.j0 (k + 1) y0 y1 y2 y3 y4 y5 y6)) ∧ (∀ y0 y1 y2 y3, LeO (stoaref05_Rank.j1 k y0 y1 y2 y3) (stoaref05_Rank.j1 (k + 1) y0 y1 y2 y3))
  | 0 => ⟨fun _ _ _ _ _ _ _ r h => by simp [stoaref05_Rank.j0] at h, fun _ _ _ _ r h => by simp [stoaref05_Rank.j1] at h⟩
  | k + 1 => by
    obtain ⟨ih0, ih1⟩ := stoaref05_Rank.mono_l k
    refine ⟨?_, ?_⟩
    · intro y0 y1 y2 y3 y4 y5 y6
      unfold stoaref05_Rank.j0
      repeat' first
      | (with_reducible exact ih0 _ _ _ _ _ _ _)
      | (with_reducible exact ih1 _ _ _ _)
      | (with_reducible exact stoaref05_Order.mono _ _ _)
      | (with_reducible exact LeO.refl _)
      | (with_reducible exact LeO.none _)
      | (with_reducible refine LeO.ite ?_ ?_)
      | (with_reducible refine LeO.bind ?_ (fun _ => ?_))
      | exact ih0 _ _ _ _ _ _ _
      | exact ih1 _ _ _ _
      | exact stoaref05_Order.mono _ _ _
      | exact LeO.none _
      | refine LeO.ite ?_ ?_
      | refine LeO.bind ?_ (fun _ => ?_)
    · intro y0 y1 y2 y3
      unfold stoaref05_Rank.j1
      repeat' first
      | (with_reducible exact ih0 _ _ _ _ _ _ _)
      | (with_reducible exact ih1 _ _ _ _)
      | (with_reducible exact stoaref05_Order.mono _ _ _)
      | (with_reducible exact LeO.refl _)
      | (with_reducible exact LeO.none _)
      | (with_reducible refine LeO.ite ?_ ?_)
      | (with_reducible refine LeO.bind ?_ (fun _ => ?_))
      | exact ih0 _ _ _ _ _ _ _
      | exact ih1 _ _ _ _
      | exact stoaref05_Order.mono _ _ _
      | exact LeO.none _
      | refine LeO.ite ?_ ?_
      | refine LeO.bind ?_ (fun _ => ?_)
theorem stoaref05_Rank.mono : ∀ a0 a1 a2 a3 a4 a5 k, LeO (stoaref05_Rank.f k a0 a1 a2 a3 a4 a5) (stoaref05_Rank.f (k + 1) a0 a1 a2 a3 a4 a5) := by
  intro a0 a1 a2 a3 a4 a5 k
  obtain ⟨ih0, ih1⟩ := stoaref05_Rank.mono_l k
  unfold stoaref05_Rank.f
  repeat' first
      | (with_reducible exact ih0 _ _ _ _ _ _ _)
      | (with_reducible exact ih1 _ _ _ _)
      | (with_reducible exact stoaref05_Order.mono _ _ _)
      | (with_reducible exact LeO.refl _)
      | (with_reducible exact LeO.none _)
      | (with_reducible refine LeO.ite ?_ ?_)
      | (with_reducible refine LeO.bind ?_ (fun _ => ?_))
      | exact ih0 _ _ _ _ _ _ _
      | exact ih1 _ _ _ _
      | exact stoaref05_Order.mono _ _ _
      | exact LeO.none _
      | refine LeO.ite ?_ ?_
      | refine LeO.bind ?_ (fun _ => ?_)
set_option maxHeartbeats 8000000 in
set_option maxRecDepth 100000 in
theorem stoaref05_Rank.calls (k : Nat) (a0_0 : Bool) (a0_1 : Int) (A0_2 : Option Addr) (c0_2 : Nat) (l0_2 : List Int) (a1_0 : Bool) (a1_1 : Int) (A1_2 : Option Addr) (c1_2 : Nat) (l1_2 : List Int) (r : Int) (w : World) (hr0_2 : Kd.C (Kd.int .u8) w A0_2 l0_2.length l0_2) (hc0_2 : l0_2.length ≤ c0_2) (hr1_2 : Kd.C (Kd.int .u8) w A1_2 l1_2.length l1_2) (hc1_2 : l1_2.length ≤ c1_2) (h : stoaref05_Rank.f k a0_0 a0_1 l0_2 a1_0 a1_1 l1_2 = some r) :
    Calls Try.prog 48 #[.agg #[.bool a0_0, .int .i64 a0_1, .slice A0_2 l0_2.length c0_2], .agg #[.bool a1_0, .int .i64 a1_1, .slice A1_2 l1_2.length c1_2]] w fun e w' => e = .returned (.int .i64 r) ∧ Below w.heap.size w w' := by
  have hu24 := Try.underlying24
  have HR0_2 := Aside0.mk hr0_2
  have HC0_2 := Aside0.mk hc0_2
  clear hr0_2 hc0_2
  have HR1_2 := Aside0.mk hr1_2
  have HC1_2 := Aside0.mk hc1_2
  clear hr1_2 hc1_2
  have HB := Aside0.mk (Below.refl w.heap.size w)
  have H : (if a0_0 = true then (stoaref05_Rank.j0 k true a0_0 a0_1 l0_2 a1_0 a1_1 l1_2) else (stoaref05_Rank.j0 k a1_0 a0_0 a0_1 l0_2 a1_0 a1_1 l1_2)) = some r := h
  clear h
  have HC3 := Aside0.mk H
  clear H
  go_enter Try.func48, Try.ntmps48
  go_upto_region 1 with (first | ((with_reducible refine gate_dst (N := 2) rfl ?_); refine box_event ?hg (N := 2) ?hd (cs := #[.bool a0_0, .int .i64 a0_1, .slice A0_2 l0_2.length c0_2]) (t := 24) ?hr ?_; (case hd => rfl); (case hg => rfl); (case hr => first | (go_simp; done) | (go_simp; rfl)); intro gb230 hg w4 hbox hb; have n0_ := Aside0.mk (below_step (by repeat (first | (with_reducible first | exact HB.out | apply below_alloc | apply pw_below_drewN | apply below_drew1) | exact HB.out)) hb); have n1_ := Aside0.mk (hbox); have n2_ := Aside0.mk ((by rw [hg]; exact (below_size (by repeat (first | (with_reducible first | exact HB.out | apply below_alloc | apply pw_below_drewN | apply below_drew1) | exact HB.out))) : w.heap.size ≤ gb230)); have n3_ := Aside0.mk ((by rw [hg]; exact (below_size (by repeat (first | (with_reducible first | exact HB.out | apply below_alloc | apply pw_below_drewN | apply below_drew1) | exact HB.out))) : w.heap.size ≤ gb230)); clear HB; have HB := n0_; have BK230 := n1_; have GW230 := n2_; have GE230 := n3_; clear n0_ n1_ n2_ n3_; clear hb hbox hg) | ((with_reducible refine gate_dst (N := 3) rfl ?_); refine box_event ?hg (N := 3) ?hd (cs := #[.bool a1_0, .int .i64 a1_1, .slice A1_2 l1_2.length c1_2]) (t := 24) ?hr ?_; (case hd => rfl); (case hg => rfl); (case hr => first | (go_simp; done) | (go_simp; rfl)); intro gb231 hg w5 hbox hb; have n0_ := Aside0.mk (blk_below (g := gb230) (o := .cells #[.bool a0_0, .int .i64 a0_1, .slice A0_2 l0_2.length c0_2] 24 (0, 0)) (by (with_reducible repeat (first | refine blk_drewN ?_ _ | refine blk_drew ?_ | refine blk_alloc ?_ _)); exact BK230.out) hb); have n1_ := Aside0.mk (below_step (by repeat (first | (with_reducible first | exact HB.out | apply below_alloc | apply pw_below_drewN | apply below_drew1 | refine below_set ?_ GE230.out) | exact HB.out)) hb); have n2_ := Aside0.mk (hbox); have n3_ := Aside0.mk ((by rw [hg]; exact (below_size (by repeat (first | (with_reducible first | exact HB.out | apply below_alloc | apply pw_below_drewN | apply below_drew1 | refine below_set ?_ GE230.out) | exact HB.out))) : w.heap.size ≤ gb231)); have n4_ := Aside0.mk ((by rw [hg]; exact (below_size (by repeat (first | (with_reducible first | exact HB.out | apply below_alloc | apply pw_below_drewN | apply below_drew1 | refine below_set ?_ GE230.out) | exact HB.out))) : w.heap.size ≤ gb231)); have n5_ := Aside0.mk ((by rw [hg]; exact Nat.ne_of_lt (blk_lt (g := gb230) (o := .cells #[.bool a0_0, .int .i64 a0_1, .slice A0_2 l0_2.length c0_2] 24 (0, 0)) (by (with_reducible repeat (first | refine blk_drewN ?_ _ | refine blk_drew ?_ | refine blk_alloc ?_ _)); exact BK230.out)) : gb230 ≠ gb231)); have n6_ := Aside0.mk ((by rw [hg]; exact Nat.ne_of_gt (blk_lt (g := gb230) (o := .cells #[.bool a0_0, .int .i64 a0_1, .slice A0_2 l0_2.length c0_2] 24 (0, 0)) (by (with_reducible repeat (first | refine blk_drewN ?_ _ | refine blk_drew ?_ | refine blk_alloc ?_ _)); exact BK230.out)) : gb231 ≠ gb230)); clear BK230; clear HB; have BK230 := n0_; have HB := n1_; have BK231 := n2_; have GW231 := n3_; have GE231 := n4_; have NB230_231 := n5_; have NB231_230 := n6_; clear n0_ n1_ n2_ n3_ n4_ n5_ n6_; clear hb hbox hg))
  (try simp only [Act.put, List.setIfInBounds_toArray, List.set_cons_zero, List.set_cons_succ])
  go_cut [10] (fun v10 wc => ∃ (kq : Nat) (x10_2 : Bool), v10 = .bool x10_2 ∧ Aside0 (stoaref05_Rank.j0 kq x10_2 a0_0 a0_1 l0_2 a1_0 a1_1 l1_2 = some r) ∧ Aside0 (kq ≤ k) ∧ Aside0 (wc.heap[gb230]? = some (.cells #[.bool a0_0, .int .i64 a0_1, (.slice A0_2 l0_2.length c0_2)] 24 (0, 0))) ∧ Aside0 (wc.heap[gb231]? = some (.cells #[.bool a1_0, .int .i64 a1_1, (.slice A1_2 l1_2.length c1_2)] 24 (0, 0))) ∧ Aside0 (Below w.heap.size w wc))
  case first =>
    have H := HC3.out
    clear HC3
    by_cases c6 : a0_0 = true
    · subst c6
      have H1 : (stoaref05_Rank.j0 k true true a0_1 l0_2 a1_0 a1_1 l1_2) = some r := by rw [if_pos rfl] at H; exact H
      clear H
      have H := H1
      clear H1
      have H' := Aside0.mk H
      clear H
      have hnb7 := NB230_231.out
      have hnc7 := NB231_230.out
      have hcz8_0 : w5.cell? ⟨gb230, 0, none⟩ = some (.bool true) := (blk_cell BK230.out 0).trans rfl
      have hcz8_1 : w5.cell? ⟨gb230, 1, none⟩ = some (.int .i64 a0_1) := (blk_cell BK230.out 1).trans rfl
      have hcz8_2 : w5.cell? ⟨gb230, 2, none⟩ = some (.slice A0_2 l0_2.length c0_2) := (blk_cell BK230.out 2).trans rfl
      have hfz8_0 := blk_frozen BK230.out 0
      have hfz8_1 := blk_frozen BK230.out 1
      have hfz8_2 := blk_frozen BK230.out 2
      go_wp2
      go_meet
      case rel => exact ⟨_, (true), (by first | rfl | (simp; done) | (simp [*]; done)), H', ⟨by first | omega | exact Nat.le_refl _⟩, ⟨by (with_reducible repeat (first | refine blk_drewN ?_ _ | refine blk_drew ?_ | refine blk_alloc ?_ _)); exact BK230.out⟩, ⟨by (with_reducible repeat (first | refine blk_drewN ?_ _ | refine blk_drew ?_ | refine blk_alloc ?_ _)); exact BK231.out⟩, ⟨by repeat (first | (with_reducible first | exact HB.out | apply below_alloc | apply pw_below_drewN | apply below_drew1 | refine below_set ?_ GE230.out | refine below_set ?_ GE231.out) | exact HB.out)⟩⟩
    · replace c6 := Bool.eq_false_iff.mpr c6
      subst c6
      have H1 : (stoaref05_Rank.j0 k a1_0 false a0_1 l0_2 a1_0 a1_1 l1_2) = some r := by rw [if_neg (show ¬ (false = true) by decide)] at H; exact H
      clear H
      have H := H1
      clear H1
      have H' := Aside0.mk H
      clear H
      have hnb9 := NB230_231.out
      have hnc9 := NB231_230.out
      have hcz10_0 : w5.cell? ⟨gb230, 0, none⟩ = some (.bool false) := (blk_cell BK230.out 0).trans rfl
      have hcz10_1 : w5.cell? ⟨gb230, 1, none⟩ = some (.int .i64 a0_1) := (blk_cell BK230.out 1).trans rfl
      have hcz10_2 : w5.cell? ⟨gb230, 2, none⟩ = some (.slice A0_2 l0_2.length c0_2) := (blk_cell BK230.out 2).trans rfl
      have hfz10_0 := blk_frozen BK230.out 0
      have hfz10_1 := blk_frozen BK230.out 1
      have hfz10_2 := blk_frozen BK230.out 2
      have hcz11_0 : w5.cell? ⟨gb231, 0, none⟩ = some (.bool a1_0) := (blk_cell BK231.out 0).trans rfl
      have hcz11_1 : w5.cell? ⟨gb231, 1, none⟩ = some (.int .i64 a1_1) := (blk_cell BK231.out 1).trans rfl
      have hcz11_2 : w5.cell? ⟨gb231, 2, none⟩ = some (.slice A1_2 l1_2.length c1_2) := (blk_cell BK231.out 2).trans rfl
      have hfz11_0 := blk_frozen BK231.out 0
      have hfz11_1 := blk_frozen BK231.out 1
      have hfz11_2 := blk_frozen BK231.out 2
      go_wp2
      go_meet
      case rel => exact ⟨_, (a1_0), (by first | rfl | (simp; done) | (simp [*]; done)), H', ⟨by first | omega | exact Nat.le_refl _⟩, ⟨by (with_reducible repeat (first | refine blk_drewN ?_ _ | refine blk_drew ?_ | refine blk_alloc ?_ _)); exact BK230.out⟩, ⟨by (with_reducible repeat (first | refine blk_drewN ?_ _ | refine blk_drew ?_ | refine blk_alloc ?_ _)); exact BK231.out⟩, ⟨by repeat (first | (with_reducible first | exact HB.out | apply below_alloc | apply pw_below_drewN | apply below_drew1 | refine below_set ?_ GE230.out | refine below_set ?_ GE231.out) | exact HB.out)⟩⟩
  case rest =>
    clear HC3
    try clear c1
    try clear p2
    try clear c4
    try clear c6
    try clear c7
    try clear c9
    try clear hcz10_0
    try clear hcz10_1
    try clear hcz10_2
    try clear hcz11_0
    try clear hcz11_1
    try clear hcz11_2
    try clear hcz8_0
    try clear hcz8_1
    try clear hcz8_2
    try clear hfz10_0
    try clear hfz10_1
    try clear hfz10_2
    try clear hfz11_0
    try clear hfz11_1
    try clear hfz11_2
    try clear hfz8_0
    try clear hfz8_1
    try clear hfz8_2
    obtain ⟨kq, x10_2, rfl, HA, HJ2, BK230, BK231, HB⟩ := hcut
    cases kq with
    | zero => exact absurd HA.out (by simp [stoaref05_Rank.j0])
    | succ kj2 =>
      have H := HA.out
      clear HA
      simp only [stoaref05_Rank.j0] at H
      by_cases c12 : x10_2 = true
      · subst c12
        have H1 : (if a0_0 = true then (stoaref05_Rank.j1 kj2 a1_0 a0_0 a0_1 l0_2) else (stoaref05_Rank.j1 kj2 false a0_0 a0_1 l0_2)) = some r := by rw [if_pos rfl] at H; exact H
        clear H
        have H := H1
        clear H1
        have HC13 := Aside0.mk H
        clear H
        go_upto_region 2 with (fail)
        go_cut [16] (fun v16 wc => ∃ (kq : Nat) (x16_12 : Bool), v16 = .bool x16_12 ∧ Aside0 (stoaref05_Rank.j1 kq x16_12 a0_0 a0_1 l0_2 = some r) ∧ Aside0 (kq ≤ kj2) ∧ Aside0 (wc.heap[gb230]? = some (.cells #[.bool a0_0, .int .i64 a0_1, (.slice A0_2 l0_2.length c0_2)] 24 (0, 0))) ∧ Aside0 (wc.heap[gb231]? = some (.cells #[.bool a1_0, .int .i64 a1_1, (.slice A1_2 l1_2.length c1_2)] 24 (0, 0))) ∧ Aside0 (Below w.heap.size w wc))
        case first =>
          have H := HC13.out
          clear HC13
          by_cases c14 : a0_0 = true
          · subst c14
            have H1 : (stoaref05_Rank.j1 kj2 a1_0 true a0_1 l0_2) = some r := by rw [if_pos rfl] at H; exact H
            clear H
            have H := H1
            clear H1
            have H' := Aside0.mk H
            clear H
            have hnb15 := NB230_231.out
            have hnc15 := NB231_230.out
            have hcz16_0 : wc.cell? ⟨gb230, 0, none⟩ = some (.bool true) := (blk_cell BK230.out 0).trans rfl
            have hcz16_1 : wc.cell? ⟨gb230, 1, none⟩ = some (.int .i64 a0_1) := (blk_cell BK230.out 1).trans rfl
            have hcz16_2 : wc.cell? ⟨gb230, 2, none⟩ = some (.slice A0_2 l0_2.length c0_2) := (blk_cell BK230.out 2).trans rfl
            have hfz16_0 := blk_frozen BK230.out 0
            have hfz16_1 := blk_frozen BK230.out 1
            have hfz16_2 := blk_frozen BK230.out 2
            have hcz17_0 : wc.cell? ⟨gb231, 0, none⟩ = some (.bool a1_0) := (blk_cell BK231.out 0).trans rfl
            have hcz17_1 : wc.cell? ⟨gb231, 1, none⟩ = some (.int .i64 a1_1) := (blk_cell BK231.out 1).trans rfl
            have hcz17_2 : wc.cell? ⟨gb231, 2, none⟩ = some (.slice A1_2 l1_2.length c1_2) := (blk_cell BK231.out 2).trans rfl
            have hfz17_0 := blk_frozen BK231.out 0
            have hfz17_1 := blk_frozen BK231.out 1
            have hfz17_2 := blk_frozen BK231.out 2
            go_wp2
            go_meet
            case rel => exact ⟨_, (a1_0), (by first | rfl | (simp; done) | (simp [*]; done)), H', ⟨by have := HJ2.out; first | omega | exact Nat.le_refl _⟩, ⟨by (with_reducible repeat (first | refine blk_drewN ?_ _ | refine blk_drew ?_ | refine blk_alloc ?_ _)); exact BK230.out⟩, ⟨by (with_reducible repeat (first | refine blk_drewN ?_ _ | refine blk_drew ?_ | refine blk_alloc ?_ _)); exact BK231.out⟩, ⟨by repeat (first | (with_reducible first | exact HB.out | apply below_alloc | apply pw_below_drewN | apply below_drew1 | refine below_set ?_ GE230.out | refine below_set ?_ GE231.out) | exact HB.out)⟩⟩
          · replace c14 := Bool.eq_false_iff.mpr c14
            subst c14
            have H1 : (stoaref05_Rank.j1 kj2 false false a0_1 l0_2) = some r := by rw [if_neg (show ¬ (false = true) by decide)] at H; exact H
            clear H
            have H := H1
            clear H1
            have H' := Aside0.mk H
            clear H
            have hnb18 := NB230_231.out
            have hnc18 := NB231_230.out
            have hcz19_0 : wc.cell? ⟨gb230, 0, none⟩ = some (.bool false) := (blk_cell BK230.out 0).trans rfl
            have hcz19_1 : wc.cell? ⟨gb230, 1, none⟩ = some (.int .i64 a0_1) := (blk_cell BK230.out 1).trans rfl
            have hcz19_2 : wc.cell? ⟨gb230, 2, none⟩ = some (.slice A0_2 l0_2.length c0_2) := (blk_cell BK230.out 2).trans rfl
            have hfz19_0 := blk_frozen BK230.out 0
            have hfz19_1 := blk_frozen BK230.out 1
            have hfz19_2 := blk_frozen BK230.out 2
            go_wp2
            go_meet
            case rel => exact ⟨_, (false), (by first | rfl | (simp; done) | (simp [*]; done)), H', ⟨by have := HJ2.out; first | omega | exact Nat.le_refl _⟩, ⟨by (with_reducible repeat (first | refine blk_drewN ?_ _ | refine blk_drew ?_ | refine blk_alloc ?_ _)); exact BK230.out⟩, ⟨by (with_reducible repeat (first | refine blk_drewN ?_ _ | refine blk_drew ?_ | refine blk_alloc ?_ _)); exact BK231.out⟩, ⟨by repeat (first | (with_reducible first | exact HB.out | apply below_alloc | apply pw_below_drewN | apply below_drew1 | refine below_set ?_ GE230.out | refine below_set ?_ GE231.out) | exact HB.out)⟩⟩
        case rest =>
          clear HC13
          try clear c1
          try clear p2
          try clear c4
          try clear c6
          try clear c7
          try clear c9
          try clear c12
          try clear c14
          try clear c15
          try clear c18
          try clear hcz10_0
          try clear hcz10_1
          try clear hcz10_2
          try clear hcz11_0
          try clear hcz11_1
          try clear hcz11_2
          try clear hcz16_0
          try clear hcz16_1
          try clear hcz16_2
          try clear hcz17_0
          try clear hcz17_1
          try clear hcz17_2
          try clear hcz19_0
          try clear hcz19_1
          try clear hcz19_2
          try clear hcz8_0
          try clear hcz8_1
          try clear hcz8_2
          try clear hfz10_0
          try clear hfz10_1
          try clear hfz10_2
          try clear hfz11_0
          try clear hfz11_1
          try clear hfz11_2
          try clear hfz16_0
          try clear hfz16_1
          try clear hfz16_2
          try clear hfz17_0
          try clear hfz17_1
          try clear hfz17_2
          try clear hfz19_0
          try clear hfz19_1
          try clear hfz19_2
          try clear hfz8_0
          try clear hfz8_1
          try clear hfz8_2
          try clear p2
          obtain ⟨kq, x16_12, rfl, HA, HJ12, BK230, BK231, HB⟩ := hcut
          cases kq with
          | zero => exact absurd HA.out (by simp [stoaref05_Rank.j1])
          | succ kj12 =>
            have H := HA.out
            clear HA
            simp only [stoaref05_Rank.j1] at H
            by_cases c20 : x16_12 = true
            · subst c20
              have H1 : (some 0) = some r := by rw [if_pos rfl] at H; exact H
              clear H
              have H := H1
              clear H1
              obtain rfl := Option.some.inj H
              go_wp2
              go_ret
              exact ⟨by first | rfl | (simp [errW_none, errW_some] <;> rfl) | (simp [*, errW_none, errW_some] <;> rfl), by repeat (first | (with_reducible first | exact HB.out | apply below_alloc | apply pw_below_drewN | apply below_drew1 | refine below_set ?_ GE230.out | refine below_set ?_ GE231.out) | exact HB.out)⟩
            · replace c20 := Bool.eq_false_iff.mpr c20
              subst c20
              have H1 : (if a0_0 = true then (some (-1)) else (some 1)) = some r := by rw [if_neg (show ¬ (false = true) by decide)] at H; exact H
              clear H
              have H := H1
              clear H1
              by_cases c21 : a0_0 = true
              · subst c21
                have H1 : (some (-1)) = some r := by rw [if_pos rfl] at H; exact H
                clear H
                have H := H1
                clear H1
                obtain rfl := Option.some.inj H
                have hnb22 := NB230_231.out
                have hnc22 := NB231_230.out
                have hcz23_0 : wc.cell? ⟨gb230, 0, none⟩ = some (.bool true) := (blk_cell BK230.out 0).trans rfl
                have hcz23_1 : wc.cell? ⟨gb230, 1, none⟩ = some (.int .i64 a0_1) := (blk_cell BK230.out 1).trans rfl
                have hcz23_2 : wc.cell? ⟨gb230, 2, none⟩ = some (.slice A0_2 l0_2.length c0_2) := (blk_cell BK230.out 2).trans rfl
                have hfz23_0 := blk_frozen BK230.out 0
                have hfz23_1 := blk_frozen BK230.out 1
                have hfz23_2 := blk_frozen BK230.out 2
                go_wp2
                go_ret
                exact ⟨by first | rfl | (simp [errW_none, errW_some] <;> rfl) | (simp [*, errW_none, errW_some] <;> rfl), by repeat (first | (with_reducible first | exact HB.out | apply below_alloc | apply pw_below_drewN | apply below_drew1 | refine below_set ?_ GE230.out | refine below_set ?_ GE231.out) | exact HB.out)⟩
              · replace c21 := Bool.eq_false_iff.mpr c21
                subst c21
                have H1 : (some 1) = some r := by rw [if_neg (show ¬ (false = true) by decide)] at H; exact H
                clear H
                have H := H1
                clear H1
                obtain rfl := Option.some.inj H
                have hnb24 := NB230_231.out
                have hnc24 := NB231_230.out
                have hcz25_0 : wc.cell? ⟨gb230, 0, none⟩ = some (.bool false) := (blk_cell BK230.out 0).trans rfl
                have hcz25_1 : wc.cell? ⟨gb230, 1, none⟩ = some (.int .i64 a0_1) := (blk_cell BK230.out 1).trans rfl
                have hcz25_2 : wc.cell? ⟨gb230, 2, none⟩ = some (.slice A0_2 l0_2.length c0_2) := (blk_cell BK230.out 2).trans rfl
                have hfz25_0 := blk_frozen BK230.out 0
                have hfz25_1 := blk_frozen BK230.out 1
                have hfz25_2 := blk_frozen BK230.out 2
                go_wp2
                go_ret
                exact ⟨by first | rfl | (simp [errW_none, errW_some] <;> rfl) | (simp [*, errW_none, errW_some] <;> rfl), by repeat (first | (with_reducible first | exact HB.out | apply below_alloc | apply pw_below_drewN | apply below_drew1 | refine below_set ?_ GE230.out | refine below_set ?_ GE231.out) | exact HB.out)⟩
      · replace c12 := Bool.eq_false_iff.mpr c12
        subst c12
        have H1 : (if a0_1 < a1_1 then (some (-1)) else (if a0_1 > a1_1 then (some 1) else ((stoaref05_Order.f kj2 l0_2 l1_2).bind fun t232 => (some t232)))) = some r := by rw [if_neg (show ¬ (false = true) by decide)] at H; exact H
        clear H
        have H := H1
        clear H1
        by_cases c26 : a0_1 < a1_1
        · rw [if_pos c26] at H
          have c26b0 : decide (a0_1 < a1_1) = true := decide_eq_true c26
          clear c26
          obtain rfl := Option.some.inj H
          have hnb27 := NB230_231.out
          have hnc27 := NB231_230.out
          have hcz28_0 : wc.cell? ⟨gb230, 0, none⟩ = some (.bool a0_0) := (blk_cell BK230.out 0).trans rfl
          have hcz28_1 : wc.cell? ⟨gb230, 1, none⟩ = some (.int .i64 a0_1) := (blk_cell BK230.out 1).trans rfl
          have hcz28_2 : wc.cell? ⟨gb230, 2, none⟩ = some (.slice A0_2 l0_2.length c0_2) := (blk_cell BK230.out 2).trans rfl
          have hfz28_0 := blk_frozen BK230.out 0
          have hfz28_1 := blk_frozen BK230.out 1
          have hfz28_2 := blk_frozen BK230.out 2
          have hcz29_0 : wc.cell? ⟨gb231, 0, none⟩ = some (.bool a1_0) := (blk_cell BK231.out 0).trans rfl
          have hcz29_1 : wc.cell? ⟨gb231, 1, none⟩ = some (.int .i64 a1_1) := (blk_cell BK231.out 1).trans rfl
          have hcz29_2 : wc.cell? ⟨gb231, 2, none⟩ = some (.slice A1_2 l1_2.length c1_2) := (blk_cell BK231.out 2).trans rfl
          have hfz29_0 := blk_frozen BK231.out 0
          have hfz29_1 := blk_frozen BK231.out 1
          have hfz29_2 := blk_frozen BK231.out 2
          go_wp2
          go_ret
          exact ⟨by first | rfl | (simp [errW_none, errW_some] <;> rfl) | (simp [*, errW_none, errW_some] <;> rfl), by repeat (first | (with_reducible first | exact HB.out | apply below_alloc | apply pw_below_drewN | apply below_drew1 | refine below_set ?_ GE230.out | refine below_set ?_ GE231.out) | exact HB.out)⟩
        · rw [if_neg c26] at H
          have c26b0 : decide (a0_1 < a1_1) = false := decide_eq_false c26
          clear c26
          by_cases c30 : a0_1 > a1_1
          · rw [if_pos c30] at H
            have c30b0 : decide (a1_1 < a0_1) = true := decide_eq_true c30
            clear c30
            obtain rfl := Option.some.inj H
            have hnb31 := NB230_231.out
            have hnc31 := NB231_230.out
            have hcz32_0 : wc.cell? ⟨gb230, 0, none⟩ = some (.bool a0_0) := (blk_cell BK230.out 0).trans rfl
            have hcz32_1 : wc.cell? ⟨gb230, 1, none⟩ = some (.int .i64 a0_1) := (blk_cell BK230.out 1).trans rfl
            have hcz32_2 : wc.cell? ⟨gb230, 2, none⟩ = some (.slice A0_2 l0_2.length c0_2) := (blk_cell BK230.out 2).trans rfl
            have hfz32_0 := blk_frozen BK230.out 0
            have hfz32_1 := blk_frozen BK230.out 1
            have hfz32_2 := blk_frozen BK230.out 2
            have hcz33_0 : wc.cell? ⟨gb231, 0, none⟩ = some (.bool a1_0) := (blk_cell BK231.out 0).trans rfl
            have hcz33_1 : wc.cell? ⟨gb231, 1, none⟩ = some (.int .i64 a1_1) := (blk_cell BK231.out 1).trans rfl
            have hcz33_2 : wc.cell? ⟨gb231, 2, none⟩ = some (.slice A1_2 l1_2.length c1_2) := (blk_cell BK231.out 2).trans rfl
            have hfz33_0 := blk_frozen BK231.out 0
            have hfz33_1 := blk_frozen BK231.out 1
            have hfz33_2 := blk_frozen BK231.out 2
            go_wp2
            go_ret
            exact ⟨by first | rfl | (simp [errW_none, errW_some] <;> rfl) | (simp [*, errW_none, errW_some] <;> rfl), by repeat (first | (with_reducible first | exact HB.out | apply below_alloc | apply pw_below_drewN | apply below_drew1 | refine below_set ?_ GE230.out | refine below_set ?_ GE231.out) | exact HB.out)⟩
          · rw [if_neg c30] at H
            have c30b0 : decide (a1_1 < a0_1) = false := decide_eq_false c30
            clear c30
            replace H := Option.bind_eq_some_iff.mp H
            obtain ⟨t232, A340, H⟩ := H
            replace H : (some t232) = some r := H
            have A34 := Aside0.mk A340
            clear A340
            obtain rfl := Option.some.inj H
            have hnb35 := NB230_231.out
            have hnc35 := NB231_230.out
            have hcz36_0 : wc.cell? ⟨gb230, 0, none⟩ = some (.bool a0_0) := (blk_cell BK230.out 0).trans rfl
            have hcz36_1 : wc.cell? ⟨gb230, 1, none⟩ = some (.int .i64 a0_1) := (blk_cell BK230.out 1).trans rfl
            have hcz36_2 : wc.cell? ⟨gb230, 2, none⟩ = some (.slice A0_2 l0_2.length c0_2) := (blk_cell BK230.out 2).trans rfl
            have hfz36_0 := blk_frozen BK230.out 0
            have hfz36_1 := blk_frozen BK230.out 1
            have hfz36_2 := blk_frozen BK230.out 2
            have hcz37_0 : wc.cell? ⟨gb231, 0, none⟩ = some (.bool a1_0) := (blk_cell BK231.out 0).trans rfl
            have hcz37_1 : wc.cell? ⟨gb231, 1, none⟩ = some (.int .i64 a1_1) := (blk_cell BK231.out 1).trans rfl
            have hcz37_2 : wc.cell? ⟨gb231, 2, none⟩ = some (.slice A1_2 l1_2.length c1_2) := (blk_cell BK231.out 2).trans rfl
            have hfz37_0 := blk_frozen BK231.out 0
            have hfz37_1 := blk_frozen BK231.out 1
            have hfz37_2 := blk_frozen BK231.out 2
            go_wp2_with (first | ((with_reducible refine gate_callee (f := 53) rfl ?_); refine goesL_ (some 33) rfl rfl Try.func53 (by kernel_rfl) rfl #[.slice A0_2 l0_2.length c0_2, .slice A1_2 l1_2.length c1_2] rfl (by (try simp only [List.map_toArray, List.map_cons, List.map_nil]); first | done | rfl | (simp only [List.length_drop, List.length_take]; rfl)) ?_; (with_reducible refine (stoaref05_Order.calls kj2 _ _ l0_2 _ _ l1_2 t232 _ ?side1 ?side2 ?side3 ?side4 A34.out).mono ?_); (case side1 => repeat (first | exact (Kd.C_below HR0_2.out HB.out) | (with_reducible refine Kd.C_alloc ?_ _) | (with_reducible refine Kd.C_drewN ?_ _) | (with_reducible refine Kd.C_drew ?_))); (case side2 => exact HC0_2.out); (case side3 => repeat (first | exact (Kd.C_below HR1_2.out HB.out) | (with_reducible refine Kd.C_alloc ?_ _) | (with_reducible refine Kd.C_drewN ?_ _) | (with_reducible refine Kd.C_drew ?_))); (case side4 => exact HC1_2.out); rintro e w' ⟨rfl, ⟨nd, rfl⟩⟩; refine ⟨_, rfl, ?_⟩))
            go_ret
            exact ⟨by first | rfl | (simp [errW_none, errW_some] <;> rfl) | (simp [*, errW_none, errW_some] <;> rfl), by repeat (first | (with_reducible first | exact HB.out | apply below_alloc | apply pw_below_drewN | apply below_drew1 | refine below_set ?_ GE230.out | refine below_set ?_ GE231.out) | exact HB.out)⟩

/-! ### stoaref05_Compare: function 27 -/
def stoaref05_Compare.f (k : Nat) (a0 : Int) (a1_0 : Bool) (a1_1 : Int) (l1_2 : List Int) (a2_0 : Bool) (a2_1 : Int) (l2_2 : List Int) : Option (Int × Int) := (stoaref05_Check.f k a0 true a1_0 a1_1 l1_2).bind fun t235 => (if t235 = 0 then ((stoaref05_Check.f k a0 true a2_0 a2_1 l2_2).bind fun t236 => (if t236 = 0 then ((stoaref05_Rank.f k a1_0 a1_1 l1_2 a2_0 a2_1 l2_2).bind fun t237 => (some (t237, 0))) else (some (0, t236)))) else (some (0, t235)))
theorem stoaref05_Compare.mono : ∀ a0 a1 a2 a3 a4 a5 a6 k, LeO (stoaref05_Compare.f k a0 a1 a2 a3 a4 a5 a6) (stoaref05_Compare.f (k + 1) a0 a1 a2 a3 a4 a5 a6) := by
  intro a0 a1 a2 a3 a4 a5 a6 k
  unfold stoaref05_Compare.f
  repeat' first
      | (with_reducible exact stoaref05_Check.mono _ _ _ _ _ _)
      | (with_reducible exact stoaref05_Rank.mono _ _ _ _ _ _ _)
      | (with_reducible exact LeO.refl _)
      | (with_reducible exact LeO.none _)
      | (with_reducible refine LeO.ite ?_ ?_)
      | (with_reducible refine LeO.bind ?_ (fun _ => ?_))
      | exact stoaref05_Check.mono _ _ _ _ _ _
      | exact stoaref05_Rank.mono _ _ _ _ _ _ _
      | exact LeO.none _
      | refine LeO.ite ?_ ?_
      | refine LeO.bind ?_ (fun _ => ?_)
set_option maxHeartbeats 8000000 in
set_option maxRecDepth 100000 in
theorem stoaref05_Compare.calls (k : Nat) (a0 : Int) (a1_0 : Bool) (a1_1 : Int) (A1_2 : Option Addr) (c1_2 : Nat) (l1_2 : List Int) (a2_0 : Bool) (a2_1 : Int) (A2_2 : Option Addr) (c2_2 : Nat) (l2_2 : List Int) (r1 : Int) (r2 : Int) (w : World) (hr1_2 : Kd.C (Kd.int .u8) w A1_2 l1_2.length l1_2) (hc1_2 : l1_2.length ≤ c1_2) (hr2_2 : Kd.C (Kd.int .u8) w A2_2 l2_2.length l2_2) (hc2_2 : l2_2.length ≤ c2_2) (h : stoaref05_Compare.f k a0 a1_0 a1_1 l1_2 a2_0 a2_1 l2_2 = some (r1, r2)) :
    Calls Try.prog 27 #[.int .i64 a0, .agg #[.bool a1_0, .int .i64 a1_1, .slice A1_2 l1_2.length c1_2], .agg #[.bool a2_0, .int .i64 a2_1, .slice A2_2 l2_2.length c2_2]] w fun e w' => e = .returned (.tuple #[.int .i64 r1, .int .i64 r2]) ∧ Below w.heap.size w w' := by
  have hu24 := Try.underlying24
  have HR1_2 := Aside0.mk hr1_2
  have HC1_2 := Aside0.mk hc1_2
  clear hr1_2 hc1_2
  have HR2_2 := Aside0.mk hr2_2
  have HC2_2 := Aside0.mk hc2_2
  clear hr2_2 hc2_2
  have HB := Aside0.mk (Below.refl w.heap.size w)
  have H : ((stoaref05_Check.f k a0 true a1_0 a1_1 l1_2).bind fun t235 => (if t235 = 0 then ((stoaref05_Check.f k a0 true a2_0 a2_1 l2_2).bind fun t236 => (if t236 = 0 then ((stoaref05_Rank.f k a1_0 a1_1 l1_2 a2_0 a2_1 l2_2).bind fun t237 => (some (t237, 0))) else (some (0, t236)))) else (some (0, t235)))) = some (r1, r2) := h
  clear h
  replace H := Option.bind_eq_some_iff.mp H
  obtain ⟨t235, A40, H⟩ := H
  replace H : (if t235 = 0 then ((stoaref05_Check.f k a0 true a2_0 a2_1 l2_2).bind fun t236 => (if t236 = 0 then ((stoaref05_Rank.f k a1_0 a1_1 l1_2 a2_0 a2_1 l2_2).bind fun t237 => (some (t237, 0))) else (some (0, t236)))) else (some (0, t235))) = some (r1, r2) := H
  have A4 := Aside0.mk A40
  clear A40
  by_cases c5 : t235 = 0
  · rw [if_pos c5] at H
    have c5b0 : (t235 == 0) = true := beq_iff_eq.mpr c5
    have c5b1 : (t235 != 0) = false := bne_eq_false_iff_eq.mpr c5
    clear c5
    replace H := Option.bind_eq_some_iff.mp H
    obtain ⟨t236, A60, H⟩ := H
    replace H : (if t236 = 0 then ((stoaref05_Rank.f k a1_0 a1_1 l1_2 a2_0 a2_1 l2_2).bind fun t237 => (some (t237, 0))) else (some (0, t236))) = some (r1, r2) := H
    have A6 := Aside0.mk A60
    clear A60
    by_cases c7 : t236 = 0
    · rw [if_pos c7] at H
      have c7b0 : (t236 == 0) = true := beq_iff_eq.mpr c7
      have c7b1 : (t236 != 0) = false := bne_eq_false_iff_eq.mpr c7
      clear c7
      replace H := Option.bind_eq_some_iff.mp H
      obtain ⟨t237, A80, H⟩ := H
      replace H : (some (t237, 0)) = some (r1, r2) := H
      have A8 := Aside0.mk A80
      clear A80
      simp only [Option.some.injEq, Prod.mk.injEq] at H
      obtain ⟨rfl, rfl⟩ := H
      go_enter Try.func27, Try.ntmps27
      go_wp2_with (first | ((with_reducible refine gate_dst (N := 4) rfl ?_); refine box_event ?hg (N := 4) ?hd (cs := #[.bool a1_0, .int .i64 a1_1, .slice A1_2 l1_2.length c1_2]) (t := 24) ?hr ?_; (case hd => rfl); (case hg => rfl); (case hr => first | (go_simp; done) | (go_simp; rfl)); intro gb233 hg w9 hbox hb; have n0_ := Aside0.mk (below_step (by repeat (first | (with_reducible first | exact HB.out | apply below_alloc | apply pw_below_drewN | apply below_drew1) | exact HB.out)) hb); have n1_ := Aside0.mk (hbox); have n2_ := Aside0.mk ((by rw [hg]; exact (below_size (by repeat (first | (with_reducible first | exact HB.out | apply below_alloc | apply pw_below_drewN | apply below_drew1) | exact HB.out))) : w.heap.size ≤ gb233)); have n3_ := Aside0.mk ((by rw [hg]; exact (below_size (by repeat (first | (with_reducible first | exact HB.out | apply below_alloc | apply pw_below_drewN | apply below_drew1) | exact HB.out))) : w.heap.size ≤ gb233)); clear HB; have HB := n0_; have BK233 := n1_; have GW233 := n2_; have GE233 := n3_; clear n0_ n1_ n2_ n3_; clear hb hbox hg) | ((with_reducible refine gate_dst (N := 5) rfl ?_); refine box_event ?hg (N := 5) ?hd (cs := #[.bool a2_0, .int .i64 a2_1, .slice A2_2 l2_2.length c2_2]) (t := 24) ?hr ?_; (case hd => rfl); (case hg => rfl); (case hr => first | (go_simp; done) | (go_simp; rfl)); intro gb234 hg w10 hbox hb; have n0_ := Aside0.mk (blk_below (g := gb233) (o := .cells #[.bool a1_0, .int .i64 a1_1, .slice A1_2 l1_2.length c1_2] 24 (0, 0)) (by (with_reducible repeat (first | refine blk_drewN ?_ _ | refine blk_drew ?_ | refine blk_alloc ?_ _)); exact BK233.out) hb); have n1_ := Aside0.mk (below_step (by repeat (first | (with_reducible first | exact HB.out | apply below_alloc | apply pw_below_drewN | apply below_drew1 | refine below_set ?_ GE233.out) | exact HB.out)) hb); have n2_ := Aside0.mk (hbox); have n3_ := Aside0.mk ((by rw [hg]; exact (below_size (by repeat (first | (with_reducible first | exact HB.out | apply below_alloc | apply pw_below_drewN | apply below_drew1 | refine below_set ?_ GE233.out) | exact HB.out))) : w.heap.size ≤ gb234)); have n4_ := Aside0.mk ((by rw [hg]; exact (below_size (by repeat (first | (with_reducible first | exact HB.out | apply below_alloc | apply pw_below_drewN | apply below_drew1 | refine below_set ?_ GE233.out) | exact HB.out))) : w.heap.size ≤ gb234)); have n5_ := Aside0.mk ((by rw [hg]; exact Nat.ne_of_lt (blk_lt (g := gb233) (o := .cells #[.bool a1_0, .int .i64 a1_1, .slice A1_2 l1_2.length c1_2] 24 (0, 0)) (by (with_reducible repeat (first | refine blk_drewN ?_ _ | refine blk_drew ?_ | refine blk_alloc ?_ _)); exact BK233.out)) : gb233 ≠ gb234)); have n6_ := Aside0.mk ((by rw [hg]; exact Nat.ne_of_gt (blk_lt (g := gb233) (o := .cells #[.bool a1_0, .int .i64 a1_1, .slice A1_2 l1_2.length c1_2] 24 (0, 0)) (by (with_reducible repeat (first | refine blk_drewN ?_ _ | refine blk_drew ?_ | refine blk_alloc ?_ _)); exact BK233.out)) : gb234 ≠ gb233)); clear BK233; clear HB; have BK233 := n0_; have HB := n1_; have BK234 := n2_; have GW234 := n3_; have GE234 := n4_; have NB233_234 := n5_; have NB234_233 := n6_; clear n0_ n1_ n2_ n3_ n4_ n5_ n6_; clear hb hbox hg; have hnb11 := NB233_234.out; have hnc11 := NB234_233.out; have hcz12_0 : w10.cell? ⟨gb233, 0, none⟩ = some (.bool a1_0) := (blk_cell BK233.out 0).trans rfl; have hcz12_1 : w10.cell? ⟨gb233, 1, none⟩ = some (.int .i64 a1_1) := (blk_cell BK233.out 1).trans rfl; have hcz12_2 : w10.cell? ⟨gb233, 2, none⟩ = some (.slice A1_2 l1_2.length c1_2) := (blk_cell BK233.out 2).trans rfl; have hfz12_0 := blk_frozen BK233.out 0; have hfz12_1 := blk_frozen BK233.out 1; have hfz12_2 := blk_frozen BK233.out 2) | ((with_reducible refine gate_callee (f := 12) rfl ?_); refine goesL_ (some 12) rfl rfl Try.func12 (by kernel_rfl) rfl #[.int .i64 a0, .bool true, .agg #[.bool a1_0, .int .i64 a1_1, .slice A1_2 l1_2.length c1_2]] rfl (by (try simp only [List.map_toArray, List.map_cons, List.map_nil]); first | done | rfl | (simp only [List.length_drop, List.length_take]; rfl)) ?_; (with_reducible refine (stoaref05_Check.calls k a0 true a1_0 a1_1 _ _ l1_2 t235 _ ?side1 ?side2 A4.out).mono ?_); (case side1 => repeat (first | exact (Kd.C_below HR1_2.out HB.out) | (with_reducible refine Kd.C_alloc ?_ _) | (with_reducible refine Kd.C_drewN ?_ _) | (with_reducible refine Kd.C_drew ?_))); (case side2 => exact HC1_2.out); rintro e w13 ⟨rfl, hb⟩; refine ⟨_, rfl, ?_⟩; have n0_ := Aside0.mk (blk_below (g := gb233) (o := .cells #[.bool a1_0, .int .i64 a1_1, .slice A1_2 l1_2.length c1_2] 24 (0, 0)) (by (with_reducible repeat (first | refine blk_drewN ?_ _ | refine blk_drew ?_ | refine blk_alloc ?_ _)); exact BK233.out) hb); have n1_ := Aside0.mk (blk_below (g := gb234) (o := .cells #[.bool a2_0, .int .i64 a2_1, .slice A2_2 l2_2.length c2_2] 24 (0, 0)) (by (with_reducible repeat (first | refine blk_drewN ?_ _ | refine blk_drew ?_ | refine blk_alloc ?_ _)); exact BK234.out) hb); have n2_ := Aside0.mk (below_step (by repeat (first | (with_reducible first | exact HB.out | apply below_alloc | apply pw_below_drewN | apply below_drew1 | refine below_set ?_ GE233.out | refine below_set ?_ GE234.out) | exact HB.out)) hb); clear BK233; clear BK234; clear HB; have BK233 := n0_; have BK234 := n1_; have HB := n2_; clear n0_ n1_ n2_; (try clear hb); (try clear hb2); (try clear hk); (try clear hi); have hcz14_0 : w13.cell? ⟨gb234, 0, none⟩ = some (.bool a2_0) := (blk_cell BK234.out 0).trans rfl; have hcz14_1 : w13.cell? ⟨gb234, 1, none⟩ = some (.int .i64 a2_1) := (blk_cell BK234.out 1).trans rfl; have hcz14_2 : w13.cell? ⟨gb234, 2, none⟩ = some (.slice A2_2 l2_2.length c2_2) := (blk_cell BK234.out 2).trans rfl; have hfz14_0 := blk_frozen BK234.out 0; have hfz14_1 := blk_frozen BK234.out 1; have hfz14_2 := blk_frozen BK234.out 2) | ((with_reducible refine gate_callee (f := 12) rfl ?_); refine goesL_ (some 18) rfl rfl Try.func12 (by kernel_rfl) rfl #[.int .i64 a0, .bool true, .agg #[.bool a2_0, .int .i64 a2_1, .slice A2_2 l2_2.length c2_2]] rfl (by (try simp only [List.map_toArray, List.map_cons, List.map_nil]); first | done | rfl | (simp only [List.length_drop, List.length_take]; rfl)) ?_; (with_reducible refine (stoaref05_Check.calls k a0 true a2_0 a2_1 _ _ l2_2 t236 _ ?side1 ?side2 A6.out).mono ?_); (case side1 => repeat (first | exact (Kd.C_below HR2_2.out HB.out) | (with_reducible refine Kd.C_alloc ?_ _) | (with_reducible refine Kd.C_drewN ?_ _) | (with_reducible refine Kd.C_drew ?_))); (case side2 => exact HC2_2.out); rintro e w15 ⟨rfl, hb⟩; refine ⟨_, rfl, ?_⟩; have n0_ := Aside0.mk (blk_below (g := gb233) (o := .cells #[.bool a1_0, .int .i64 a1_1, .slice A1_2 l1_2.length c1_2] 24 (0, 0)) (by (with_reducible repeat (first | refine blk_drewN ?_ _ | refine blk_drew ?_ | refine blk_alloc ?_ _)); exact BK233.out) hb); have n1_ := Aside0.mk (blk_below (g := gb234) (o := .cells #[.bool a2_0, .int .i64 a2_1, .slice A2_2 l2_2.length c2_2] 24 (0, 0)) (by (with_reducible repeat (first | refine blk_drewN ?_ _ | refine blk_drew ?_ | refine blk_alloc ?_ _)); exact BK234.out) hb); have n2_ := Aside0.mk (below_step (by repeat (first | (with_reducible first | exact HB.out | apply below_alloc | apply pw_below_drewN | apply below_drew1 | refine below_set ?_ GE233.out | refine below_set ?_ GE234.out) | exact HB.out)) hb); clear BK233; clear BK234; clear HB; have BK233 := n0_; have BK234 := n1_; have HB := n2_; clear n0_ n1_ n2_; (try clear hb); (try clear hb2); (try clear hk); (try clear hi); have hcz16_0 : w15.cell? ⟨gb233, 0, none⟩ = some (.bool a1_0) := (blk_cell BK233.out 0).trans rfl; have hcz16_1 : w15.cell? ⟨gb233, 1, none⟩ = some (.int .i64 a1_1) := (blk_cell BK233.out 1).trans rfl; have hcz16_2 : w15.cell? ⟨gb233, 2, none⟩ = some (.slice A1_2 l1_2.length c1_2) := (blk_cell BK233.out 2).trans rfl; have hfz16_0 := blk_frozen BK233.out 0; have hfz16_1 := blk_frozen BK233.out 1; have hfz16_2 := blk_frozen BK233.out 2; have hcz17_0 : w15.cell? ⟨gb234, 0, none⟩ = some (.bool a2_0) := (blk_cell BK234.out 0).trans rfl; have hcz17_1 : w15.cell? ⟨gb234, 1, none⟩ = some (.int .i64 a2_1) := (blk_cell BK234.out 1).trans rfl; have hcz17_2 : w15.cell? ⟨gb234, 2, none⟩ = some (.slice A2_2 l2_2.length c2_2) := (blk_cell BK234.out 2).trans rfl; have hfz17_0 := blk_frozen BK234.out 0; have hfz17_1 := blk_frozen BK234.out 1; have hfz17_2 := blk_frozen BK234.out 2) | ((with_reducible refine gate_callee (f := 48) rfl ?_); refine goesL_ (some 24) rfl rfl Try.func48 (by kernel_rfl) rfl #[.agg #[.bool a1_0, .int .i64 a1_1, .slice A1_2 l1_2.length c1_2], .agg #[.bool a2_0, .int .i64 a2_1, .slice A2_2 l2_2.length c2_2]] rfl (by (try simp only [List.map_toArray, List.map_cons, List.map_nil]); first | done | rfl | (simp only [List.length_drop, List.length_take]; rfl)) ?_; (with_reducible refine (stoaref05_Rank.calls k a1_0 a1_1 _ _ l1_2 a2_0 a2_1 _ _ l2_2 t237 _ ?side1 ?side2 ?side3 ?side4 A8.out).mono ?_); (case side1 => repeat (first | exact (Kd.C_below HR1_2.out HB.out) | (with_reducible refine Kd.C_alloc ?_ _) | (with_reducible refine Kd.C_drewN ?_ _) | (with_reducible refine Kd.C_drew ?_))); (case side2 => exact HC1_2.out); (case side3 => repeat (first | exact (Kd.C_below HR2_2.out HB.out) | (with_reducible refine Kd.C_alloc ?_ _) | (with_reducible refine Kd.C_drewN ?_ _) | (with_reducible refine Kd.C_drew ?_))); (case side4 => exact HC2_2.out); rintro e w18 ⟨rfl, hb⟩; refine ⟨_, rfl, ?_⟩; have n0_ := Aside0.mk (blk_below (g := gb233) (o := .cells #[.bool a1_0, .int .i64 a1_1, .slice A1_2 l1_2.length c1_2] 24 (0, 0)) (by (with_reducible repeat (first | refine blk_drewN ?_ _ | refine blk_drew ?_ | refine blk_alloc ?_ _)); exact BK233.out) hb); have n1_ := Aside0.mk (blk_below (g := gb234) (o := .cells #[.bool a2_0, .int .i64 a2_1, .slice A2_2 l2_2.length c2_2] 24 (0, 0)) (by (with_reducible repeat (first | refine blk_drewN ?_ _ | refine blk_drew ?_ | refine blk_alloc ?_ _)); exact BK234.out) hb); have n2_ := Aside0.mk (below_step (by repeat (first | (with_reducible first | exact HB.out | apply below_alloc | apply pw_below_drewN | apply below_drew1 | refine below_set ?_ GE233.out | refine below_set ?_ GE234.out) | exact HB.out)) hb); clear BK233; clear BK234; clear HB; have BK233 := n0_; have BK234 := n1_; have HB := n2_; clear n0_ n1_ n2_; (try clear hb); (try clear hb2); (try clear hk); (try clear hi)))
      go_ret2
      exact ⟨by first | rfl | (simp [errW_none, errW_some] <;> rfl) | (simp [*, errW_none, errW_some] <;> rfl), by repeat (first | (with_reducible first | exact HB.out | apply below_alloc | apply pw_below_drewN | apply below_drew1 | refine below_set ?_ GE233.out | refine below_set ?_ GE234.out) | exact HB.out)⟩
    · rw [if_neg c7] at H
      have c7b0 : (t236 == 0) = false := beq_eq_false_iff_ne.mpr c7
      have c7b1 : (t236 != 0) = true := bne_iff_ne.mpr c7
      simp only [Option.some.injEq, Prod.mk.injEq] at H
      obtain ⟨rfl, rfl⟩ := H
      go_enter Try.func27, Try.ntmps27
      go_wp2_with (first | ((with_reducible refine gate_dst (N := 4) rfl ?_); refine box_event ?hg (N := 4) ?hd (cs := #[.bool a1_0, .int .i64 a1_1, .slice A1_2 l1_2.length c1_2]) (t := 24) ?hr ?_; (case hd => rfl); (case hg => rfl); (case hr => first | (go_simp; done) | (go_simp; rfl)); intro gb233 hg w19 hbox hb; have n0_ := Aside0.mk (below_step (by repeat (first | (with_reducible first | exact HB.out | apply below_alloc | apply pw_below_drewN | apply below_drew1) | exact HB.out)) hb); have n1_ := Aside0.mk (hbox); have n2_ := Aside0.mk ((by rw [hg]; exact (below_size (by repeat (first | (with_reducible first | exact HB.out | apply below_alloc | apply pw_below_drewN | apply below_drew1) | exact HB.out))) : w.heap.size ≤ gb233)); have n3_ := Aside0.mk ((by rw [hg]; exact (below_size (by repeat (first | (with_reducible first | exact HB.out | apply below_alloc | apply pw_below_drewN | apply below_drew1) | exact HB.out))) : w.heap.size ≤ gb233)); clear HB; have HB := n0_; have BK233 := n1_; have GW233 := n2_; have GE233 := n3_; clear n0_ n1_ n2_ n3_; clear hb hbox hg) | ((with_reducible refine gate_dst (N := 5) rfl ?_); refine box_event ?hg (N := 5) ?hd (cs := #[.bool a2_0, .int .i64 a2_1, .slice A2_2 l2_2.length c2_2]) (t := 24) ?hr ?_; (case hd => rfl); (case hg => rfl); (case hr => first | (go_simp; done) | (go_simp; rfl)); intro gb234 hg w20 hbox hb; have n0_ := Aside0.mk (blk_below (g := gb233) (o := .cells #[.bool a1_0, .int .i64 a1_1, .slice A1_2 l1_2.length c1_2] 24 (0, 0)) (by (with_reducible repeat (first | refine blk_drewN ?_ _ | refine blk_drew ?_ | refine blk_alloc ?_ _)); exact BK233.out) hb); have n1_ := Aside0.mk (below_step (by repeat (first | (with_reducible first | exact HB.out | apply below_alloc | apply pw_below_drewN | apply below_drew1 | refine below_set ?_ GE233.out) | exact HB.out)) hb); have n2_ := Aside0.mk (hbox); have n3_ := Aside0.mk ((by rw [hg]; exact (below_size (by repeat (first | (with_reducible first | exact HB.out | apply below_alloc | apply pw_below_drewN | apply below_drew1 | refine below_set ?_ GE233.out) | exact HB.out))) : w.heap.size ≤ gb234)); have n4_ := Aside0.mk ((by rw [hg]; exact (below_size (by repeat (first | (with_reducible first | exact HB.out | apply below_alloc | apply pw_below_drewN | apply below_drew1 | refine below_set ?_ GE233.out) | exact HB.out))) : w.heap.size ≤ gb234)); have n5_ := Aside0.mk ((by rw [hg]; exact Nat.ne_of_lt (blk_lt (g := gb233) (o := .cells #[.bool a1_0, .int .i64 a1_1, .slice A1_2 l1_2.length c1_2] 24 (0, 0)) (by (with_reducible repeat (first | refine blk_drewN ?_ _ | refine blk_drew ?_ | refine blk_alloc ?_ _)); exact BK233.out)) : gb233 ≠ gb234)); have n6_ := Aside0.mk ((by rw [hg]; exact Nat.ne_of_gt (blk_lt (g := gb233) (o := .cells #[.bool a1_0, .int .i64 a1_1, .slice A1_2 l1_2.length c1_2] 24 (0, 0)) (by (with_reducible repeat (first | refine blk_drewN ?_ _ | refine blk_drew ?_ | refine blk_alloc ?_ _)); exact BK233.out)) : gb234 ≠ gb233)); clear BK233; clear HB; have BK233 := n0_; have HB := n1_; have BK234 := n2_; have GW234 := n3_; have GE234 := n4_; have NB233_234 := n5_; have NB234_233 := n6_; clear n0_ n1_ n2_ n3_ n4_ n5_ n6_; clear hb hbox hg; have hnb21 := NB233_234.out; have hnc21 := NB234_233.out; have hcz22_0 : w20.cell? ⟨gb233, 0, none⟩ = some (.bool a1_0) := (blk_cell BK233.out 0).trans rfl; have hcz22_1 : w20.cell? ⟨gb233, 1, none⟩ = some (.int .i64 a1_1) := (blk_cell BK233.out 1).trans rfl; have hcz22_2 : w20.cell? ⟨gb233, 2, none⟩ = some (.slice A1_2 l1_2.length c1_2) := (blk_cell BK233.out 2).trans rfl; have hfz22_0 := blk_frozen BK233.out 0; have hfz22_1 := blk_frozen BK233.out 1; have hfz22_2 := blk_frozen BK233.out 2) | ((with_reducible refine gate_callee (f := 12) rfl ?_); refine goesL_ (some 12) rfl rfl Try.func12 (by kernel_rfl) rfl #[.int .i64 a0, .bool true, .agg #[.bool a1_0, .int .i64 a1_1, .slice A1_2 l1_2.length c1_2]] rfl (by (try simp only [List.map_toArray, List.map_cons, List.map_nil]); first | done | rfl | (simp only [List.length_drop, List.length_take]; rfl)) ?_; (with_reducible refine (stoaref05_Check.calls k a0 true a1_0 a1_1 _ _ l1_2 t235 _ ?side1 ?side2 A4.out).mono ?_); (case side1 => repeat (first | exact (Kd.C_below HR1_2.out HB.out) | (with_reducible refine Kd.C_alloc ?_ _) | (with_reducible refine Kd.C_drewN ?_ _) | (with_reducible refine Kd.C_drew ?_))); (case side2 => exact HC1_2.out); rintro e w23 ⟨rfl, hb⟩; refine ⟨_, rfl, ?_⟩; have n0_ := Aside0.mk (blk_below (g := gb233) (o := .cells #[.bool a1_0, .int .i64 a1_1, .slice A1_2 l1_2.length c1_2] 24 (0, 0)) (by (with_reducible repeat (first | refine blk_drewN ?_ _ | refine blk_drew ?_ | refine blk_alloc ?_ _)); exact BK233.out) hb); have n1_ := Aside0.mk (blk_below (g := gb234) (o := .cells #[.bool a2_0, .int .i64 a2_1, .slice A2_2 l2_2.length c2_2] 24 (0, 0)) (by (with_reducible repeat (first | refine blk_drewN ?_ _ | refine blk_drew ?_ | refine blk_alloc ?_ _)); exact BK234.out) hb); have n2_ := Aside0.mk (below_step (by repeat (first | (with_reducible first | exact HB.out | apply below_alloc | apply pw_below_drewN | apply below_drew1 | refine below_set ?_ GE233.out | refine below_set ?_ GE234.out) | exact HB.out)) hb); clear BK233; clear BK234; clear HB; have BK233 := n0_; have BK234 := n1_; have HB := n2_; clear n0_ n1_ n2_; (try clear hb); (try clear hb2); (try clear hk); (try clear hi); have hcz24_0 : w23.cell? ⟨gb234, 0, none⟩ = some (.bool a2_0) := (blk_cell BK234.out 0).trans rfl; have hcz24_1 : w23.cell? ⟨gb234, 1, none⟩ = some (.int .i64 a2_1) := (blk_cell BK234.out 1).trans rfl; have hcz24_2 : w23.cell? ⟨gb234, 2, none⟩ = some (.slice A2_2 l2_2.length c2_2) := (blk_cell BK234.out 2).trans rfl; have hfz24_0 := blk_frozen BK234.out 0; have hfz24_1 := blk_frozen BK234.out 1; have hfz24_2 := blk_frozen BK234.out 2) | ((with_reducible refine gate_callee (f := 12) rfl ?_); refine goesL_ (some 18) rfl rfl Try.func12 (by kernel_rfl) rfl #[.int .i64 a0, .bool true, .agg #[.bool a2_0, .int .i64 a2_1, .slice A2_2 l2_2.length c2_2]] rfl (by (try simp only [List.map_toArray, List.map_cons, List.map_nil]); first | done | rfl | (simp only [List.length_drop, List.length_take]; rfl)) ?_; (with_reducible refine (stoaref05_Check.calls k a0 true a2_0 a2_1 _ _ l2_2 t236 _ ?side1 ?side2 A6.out).mono ?_); (case side1 => repeat (first | exact (Kd.C_below HR2_2.out HB.out) | (with_reducible refine Kd.C_alloc ?_ _) | (with_reducible refine Kd.C_drewN ?_ _) | (with_reducible refine Kd.C_drew ?_))); (case side2 => exact HC2_2.out); rintro e w25 ⟨rfl, hb⟩; refine ⟨_, rfl, ?_⟩; have n0_ := Aside0.mk (blk_below (g := gb233) (o := .cells #[.bool a1_0, .int .i64 a1_1, .slice A1_2 l1_2.length c1_2] 24 (0, 0)) (by (with_reducible repeat (first | refine blk_drewN ?_ _ | refine blk_drew ?_ | refine blk_alloc ?_ _)); exact BK233.out) hb); have n1_ := Aside0.mk (blk_below (g := gb234) (o := .cells #[.bool a2_0, .int .i64 a2_1, .slice A2_2 l2_2.length c2_2] 24 (0, 0)) (by (with_reducible repeat (first | refine blk_drewN ?_ _ | refine blk_drew ?_ | refine blk_alloc ?_ _)); exact BK234.out) hb); have n2_ := Aside0.mk (below_step (by repeat (first | (with_reducible first | exact HB.out | apply below_alloc | apply pw_below_drewN | apply below_drew1 | refine below_set ?_ GE233.out | refine below_set ?_ GE234.out) | exact HB.out)) hb); clear BK233; clear BK234; clear HB; have BK233 := n0_; have BK234 := n1_; have HB := n2_; clear n0_ n1_ n2_; (try clear hb); (try clear hb2); (try clear hk); (try clear hi)))
      go_ret2
      exact ⟨by first | rfl | (simp [errW_none, errW_some] <;> rfl) | (simp [*, errW_none, errW_some] <;> rfl), by repeat (first | (with_reducible first | exact HB.out | apply below_alloc | apply pw_below_drewN | apply below_drew1 | refine below_set ?_ GE233.out | refine below_set ?_ GE234.out) | exact HB.out)⟩
  · rw [if_neg c5] at H
    have c5b0 : (t235 == 0) = false := beq_eq_false_iff_ne.mpr c5
    have c5b1 : (t235 != 0) = true := bne_iff_ne.mpr c5
    simp only [Option.some.injEq, Prod.mk.injEq] at H
    obtain ⟨rfl, rfl⟩ := H
    go_enter Try.func27, Try.ntmps27
    go_wp2_with (first | ((with_reducible refine gate_dst (N := 4) rfl ?_); refine box_event ?hg (N := 4) ?hd (cs := #[.bool a1_0, .int .i64 a1_1, .slice A1_2 l1_2.length c1_2]) (t := 24) ?hr ?_; (case hd => rfl); (case hg => rfl); (case hr => first | (go_simp; done) | (go_simp; rfl)); intro gb233 hg w26 hbox hb; have n0_ := Aside0.mk (below_step (by repeat (first | (with_reducible first | exact HB.out | apply below_alloc | apply pw_below_drewN | apply below_drew1) | exact HB.out)) hb); have n1_ := Aside0.mk (hbox); have n2_ := Aside0.mk ((by rw [hg]; exact (below_size (by repeat (first | (with_reducible first | exact HB.out | apply below_alloc | apply pw_below_drewN | apply below_drew1) | exact HB.out))) : w.heap.size ≤ gb233)); have n3_ := Aside0.mk ((by rw [hg]; exact (below_size (by repeat (first | (with_reducible first | exact HB.out | apply below_alloc | apply pw_below_drewN | apply below_drew1) | exact HB.out))) : w.heap.size ≤ gb233)); clear HB; have HB := n0_; have BK233 := n1_; have GW233 := n2_; have GE233 := n3_; clear n0_ n1_ n2_ n3_; clear hb hbox hg) | ((with_reducible refine gate_dst (N := 5) rfl ?_); refine box_event ?hg (N := 5) ?hd (cs := #[.bool a2_0, .int .i64 a2_1, .slice A2_2 l2_2.length c2_2]) (t := 24) ?hr ?_; (case hd => rfl); (case hg => rfl); (case hr => first | (go_simp; done) | (go_simp; rfl)); intro gb234 hg w27 hbox hb; have n0_ := Aside0.mk (blk_below (g := gb233) (o := .cells #[.bool a1_0, .int .i64 a1_1, .slice A1_2 l1_2.length c1_2] 24 (0, 0)) (by (with_reducible repeat (first | refine blk_drewN ?_ _ | refine blk_drew ?_ | refine blk_alloc ?_ _)); exact BK233.out) hb); have n1_ := Aside0.mk (below_step (by repeat (first | (with_reducible first | exact HB.out | apply below_alloc | apply pw_below_drewN | apply below_drew1 | refine below_set ?_ GE233.out) | exact HB.out)) hb); have n2_ := Aside0.mk (hbox); have n3_ := Aside0.mk ((by rw [hg]; exact (below_size (by repeat (first | (with_reducible first | exact HB.out | apply below_alloc | apply pw_below_drewN | apply below_drew1 | refine below_set ?_ GE233.out) | exact HB.out))) : w.heap.size ≤ gb234)); have n4_ := Aside0.mk ((by rw [hg]; exact (below_size (by repeat (first | (with_reducible first | exact HB.out | apply below_alloc | apply pw_below_drewN | apply below_drew1 | refine below_set ?_ GE233.out) | exact HB.out))) : w.heap.size ≤ gb234)); have n5_ := Aside0.mk ((by rw [hg]; exact Nat.ne_of_lt (blk_lt (g := gb233) (o := .cells #[.bool a1_0, .int .i64 a1_1, .slice A1_2 l1_2.length c1_2] 24 (0, 0)) (by (with_reducible repeat (first | refine blk_drewN ?_ _ | refine blk_drew ?_ | refine blk_alloc ?_ _)); exact BK233.out)) : gb233 ≠ gb234)); have n6_ := Aside0.mk ((by rw [hg]; exact Nat.ne_of_gt (blk_lt (g := gb233) (o := .cells #[.bool a1_0, .int .i64 a1_1, .slice A1_2 l1_2.length c1_2] 24 (0, 0)) (by (with_reducible repeat (first | refine blk_drewN ?_ _ | refine blk_drew ?_ | refine blk_alloc ?_ _)); exact BK233.out)) : gb234 ≠ gb233)); clear BK233; clear HB; have BK233 := n0_; have HB := n1_; have BK234 := n2_; have GW234 := n3_; have GE234 := n4_; have NB233_234 := n5_; have NB234_233 := n6_; clear n0_ n1_ n2_ n3_ n4_ n5_ n6_; clear hb hbox hg; have hnb28 := NB233_234.out; have hnc28 := NB234_233.out; have hcz29_0 : w27.cell? ⟨gb233, 0, none⟩ = some (.bool a1_0) := (blk_cell BK233.out 0).trans rfl; have hcz29_1 : w27.cell? ⟨gb233, 1, none⟩ = some (.int .i64 a1_1) := (blk_cell BK233.out 1).trans rfl; have hcz29_2 : w27.cell? ⟨gb233, 2, none⟩ = some (.slice A1_2 l1_2.length c1_2) := (blk_cell BK233.out 2).trans rfl; have hfz29_0 := blk_frozen BK233.out 0; have hfz29_1 := blk_frozen BK233.out 1; have hfz29_2 := blk_frozen BK233.out 2) | ((with_reducible refine gate_callee (f := 12) rfl ?_); refine goesL_ (some 12) rfl rfl Try.func12 (by kernel_rfl) rfl #[.int .i64 a0, .bool true, .agg #[.bool a1_0, .int .i64 a1_1, .slice A1_2 l1_2.length c1_2]] rfl (by (try simp only [List.map_toArray, List.map_cons, List.map_nil]); first | done | rfl | (simp only [List.length_drop, List.length_take]; rfl)) ?_; (with_reducible refine (stoaref05_Check.calls k a0 true a1_0 a1_1 _ _ l1_2 t235 _ ?side1 ?side2 A4.out).mono ?_); (case side1 => repeat (first | exact (Kd.C_below HR1_2.out HB.out) | (with_reducible refine Kd.C_alloc ?_ _) | (with_reducible refine Kd.C_drewN ?_ _) | (with_reducible refine Kd.C_drew ?_))); (case side2 => exact HC1_2.out); rintro e w30 ⟨rfl, hb⟩; refine ⟨_, rfl, ?_⟩; have n0_ := Aside0.mk (blk_below (g := gb233) (o := .cells #[.bool a1_0, .int .i64 a1_1, .slice A1_2 l1_2.length c1_2] 24 (0, 0)) (by (with_reducible repeat (first | refine blk_drewN ?_ _ | refine blk_drew ?_ | refine blk_alloc ?_ _)); exact BK233.out) hb); have n1_ := Aside0.mk (blk_below (g := gb234) (o := .cells #[.bool a2_0, .int .i64 a2_1, .slice A2_2 l2_2.length c2_2] 24 (0, 0)) (by (with_reducible repeat (first | refine blk_drewN ?_ _ | refine blk_drew ?_ | refine blk_alloc ?_ _)); exact BK234.out) hb); have n2_ := Aside0.mk (below_step (by repeat (first | (with_reducible first | exact HB.out | apply below_alloc | apply pw_below_drewN | apply below_drew1 | refine below_set ?_ GE233.out | refine below_set ?_ GE234.out) | exact HB.out)) hb); clear BK233; clear BK234; clear HB; have BK233 := n0_; have BK234 := n1_; have HB := n2_; clear n0_ n1_ n2_; (try clear hb); (try clear hb2); (try clear hk); (try clear hi)))
    go_ret2
    exact ⟨by first | rfl | (simp [errW_none, errW_some] <;> rfl) | (simp [*, errW_none, errW_some] <;> rfl), by repeat (first | (with_reducible first | exact HB.out | apply below_alloc | apply pw_below_drewN | apply below_drew1 | refine below_set ?_ GE233.out | refine below_set ?_ GE234.out) | exact HB.out)⟩

end Go.Proofs.Ytaibfjipombilaa.PCellOrders

-- written by this session's own printing program (myprint.sh)
import Derived.Test.YtlfjelfafcaepaaPVintBackx0
import Derived.Test.YtlfjelfafcaepaaPVintBackx1
import Derived.Test.YtlfjelfafcaepaaPVintBackx2
namespace Go.Proofs.Ytlfjelfafcaepaa.PVintBack
open Go.RowKit Go.Proofs.YtlfjelfafcaepaaW.PrintWords Go.Proofs.YtlfjelfafcaepaaW.PrintLast Go.Proofs.YtlfjelfafcaepaaW.PrintMore
attribute [local go_sem] max2_int min2_int max_two min_two max_three min_three max_four min_four   -- for this text's walks alone
set_option linter.unusedVariables false
set_option linter.unusedSimpArgs false

/-! ### stoaref01_Piece: function 24 -/
mutual
def stoaref01_Piece.j0 : Nat → List Int → Int → Int → List Int → Option (List Int)
  | 0, _, _, _, _ => none
  | k + 1, x0, x1, x2, x7 => stoaref01_Piece.l0 k x0 x2 x7 x1
def stoaref01_Piece.l0 : Nat → List Int → Int → List Int → Int → Option (List Int)
  | 0, _, _, _, _ => none
  | k + 1, x0, x2, x7, x8 => if x8 < (x0.length : Int) then (if x8 < x2 then (if 0 ≤ x8 then (if x7.length < 140737488355328 then (stoaref01_Piece.l0 k x0 x2 (x7 ++ [rd x0 x8]) (wrap64 (x8 + 1))) else (none)) else (none)) else (some x7)) else (some x7)
end
def stoaref01_Piece.f (k : Nat) (l0 : List Int) (a1 : Int) (a2 : Int) : Option (List Int) := (some (([] : List Int) : List Int)).bind fun y173 => (if a1 < 0 then (stoaref01_Piece.j0 k l0 0 a2 y173) else (stoaref01_Piece.j0 k l0 a1 a2 y173))
theorem stoaref01_Piece.mono_l : ∀ k, (∀ y0 y1 y2 y3, LeO (stoaref01_Piece.j0 k y0 y1 y2 y3) (stoaref01_Piece.j0 (k + 1) y0 y1 y2 y3)) ∧ (∀ y0 y1 y2 y3, LeO (stoaref01_Piece.l0 k y0 y1 y2 y3) (stoaref01_Piece.l0 (k + 1) y0 y1 y2 y3))
  | 0 => ⟨fun _ _ _ _ r h => by simp [stoaref01_Piece.j0] at h, fun _ _ _ _ r h => by simp [stoaref01_Piece.l0] at h⟩
  | k + 1 => by
    obtain ⟨ih0, ih1⟩ := stoaref01_Piece.mono_l k
    refine ⟨?_, ?_⟩
    · intro y0 y1 y2 y3
      unfold stoaref01_Piece.j0
      repeat' first
      | (with_reducible exact ih0 _ _ _ _)
      | (with_reducible exact ih1 _ _ _ _)
      | (with_reducible exact LeO.refl _)
      | (with_reducible exact LeO.none _)
      | (with_reducible refine LeO.ite ?_ ?_)
      | (with_reducible refine LeO.bind ?_ (fun _ => ?_))
      | exact ih0 _ _ _ _
      | exact ih1 _ _ _ _
      | exact LeO.none _
      | refine LeO.ite ?_ ?_
      | refine LeO.bind ?_ (fun _ => ?_)
    · intro y0 y1 y2 y3
      unfold stoaref01_Piece.l0
      repeat' first
      | (with_reducible exact ih0 _ _ _ _)
      | (with_reducible exact ih1 _ _ _ _)
      | (with_reducible exact LeO.refl _)
      | (with_reducible exact LeO.none _)
      | (with_reducible refine LeO.ite ?_ ?_)
      | (with_reducible refine LeO.bind ?_ (fun _ => ?_))
      | exact ih0 _ _ _ _
      | exact ih1 _ _ _ _
      | exact LeO.none _
      | refine LeO.ite ?_ ?_
      | refine LeO.bind ?_ (fun _ => ?_)
theorem stoaref01_Piece.mono : ∀ a0 a1 a2 k, LeO (stoaref01_Piece.f k a0 a1 a2) (stoaref01_Piece.f (k + 1) a0 a1 a2) := by
  intro a0 a1 a2 k
  obtain ⟨ih0, ih1⟩ := stoaref01_Piece.mono_l k
  unfold stoaref01_Piece.f
  repeat' first
      | (with_reducible exact ih0 _ _ _ _)
      | (with_reducible exact ih1 _ _ _ _)
      | (with_reducible exact LeO.refl _)
      | (with_reducible exact LeO.none _)
      | (with_reducible refine LeO.ite ?_ ?_)
      | (with_reducible refine LeO.bind ?_ (fun _ => ?_))
      | exact ih0 _ _ _ _
      | exact ih1 _ _ _ _
      | exact LeO.none _
      | refine LeO.ite ?_ ?_
      | refine LeO.bind ?_ (fun _ => ?_)
set_option maxHeartbeats 8000000 in
set_option maxRecDepth 100000 in
theorem stoaref01_Piece.calls (k : Nat) (A0 : Option Addr) (c0 : Nat) (l0 : List Int) (a1 : Int) (a2 : Int) (r : List Int) (w : World) (hr0 : Kd.C (Kd.int .u8) w A0 l0.length l0) (hc0 : l0.length ≤ c0) (h : stoaref01_Piece.f k l0 a1 a2 = some r) :
    Calls Try.prog 24 #[.slice A0 l0.length c0, .int .i64 a1, .int .i64 a2] w fun e w' => ∃ v0_ : Value, e = .returned (v0_) ∧ Kd.R (Kd.int .u8) 5 w' w.heap.size (fun _ => True) v0_ r ∧ Below w.heap.size w w' := by
  have HR0 := Aside0.mk hr0
  have HC0 := Aside0.mk hc0
  clear hr0 hc0
  have HB := Aside0.mk (Below.refl w.heap.size w)
  have H : ((some (([] : List Int) : List Int)).bind fun y173 => (if a1 < 0 then (stoaref01_Piece.j0 k l0 0 a2 y173) else (stoaref01_Piece.j0 k l0 a1 a2 y173))) = some r := h
  clear h
  obtain ⟨y173, hy173⟩ : ∃ y_ : List Int, y_ = (([] : List Int)) := ⟨_, rfl⟩
  replace H : (if a1 < 0 then (stoaref01_Piece.j0 k l0 0 a2 y173) else (stoaref01_Piece.j0 k l0 a1 a2 y173)) = some r := by first | (rw [hy173]; with_reducible exact H) | (have H2_ := (Option.bind_some _ _).symm.trans H; rw [hy173]; with_reducible exact H2_) | (have H2_ := (Option.bind_some _ _).symm.trans H; with_reducible exact H2_) | with_reducible exact H | (rw [hy173]; exact H) | exact H
  have Ny173 := Aside0.mk hy173
  clear hy173
  have HC4 := Aside0.mk H
  clear H
  go_enter Try.func24, Try.ntmps24
  go_upto_if 11 with (first | ((with_reducible refine gate_dst (N := 9) rfl ?_); refine Kd.R_lit (Kd.int .u8) _ 5 ?hg (N := 9) ?hd (xs := ([] : List Int)) (inner := []) (ok := fun _ => True) (okp := fun _ => True) ?hr ?hp (fun _ hk => hk) trivial (Below.refl _ _) (Nat.le_refl _) (by simp) ?_; (case hd => rfl); (case hg => rfl); (case hr => first | (go_simp; done) | (go_simp; rfl)); (case hp => exact (Reps.none _ _)); intro v174 w5 ho6 hb hg_ hnew_; clear hg_ hnew_; (first | rw [← Ny173.out] at ho6 | (simp only [Int.reduceToNat] at ho6; rw [← Ny173.out] at ho6)); have n0_ := Aside0.mk (Kd.R_lower ho6 (below_size (by repeat (first | (with_reducible first | exact HB.out | apply below_alloc | apply pw_below_drewN | apply below_drew1) | exact HB.out)))); have n1_ := Aside0.mk (below_step (by repeat (first | (with_reducible first | exact HB.out | apply below_alloc | apply pw_below_drewN | apply below_drew1) | exact HB.out)) hb); clear HB; have HO175 := n0_; have HB := n1_; clear n0_ n1_; clear hb ho6))
  (try simp only [Act.put, List.setIfInBounds_toArray, List.set_cons_zero, List.set_cons_succ])
  go_cut [1] (fun v1 wc => ∃ (kq : Nat) (x1_3 : Int), v1 = .int .i64 x1_3 ∧ Aside0 (stoaref01_Piece.j0 kq l0 x1_3 a2 y173 = some r) ∧ Aside0 (kq ≤ k) ∧ Aside0 (Kd.R (Kd.int .u8) 5 wc w.heap.size (fun _ => True) v174 y173) ∧ Aside0 (Below w.heap.size w wc))
  case first =>
    have H := HC4.out
    clear HC4
    by_cases c7 : a1 < 0
    · rw [if_pos c7] at H
      have c7b0 : decide (a1 < 0) = true := decide_eq_true c7
      clear c7
      (first | rw [c7b0] | (simp only [i64_w, i32_w]; rw [c7b0]) | skip)
      have H' := Aside0.mk H
      clear H
      go_wp2
      go_meet
      case rel => exact ⟨_, (0), (by first | rfl | (simp; done) | (simp [*]; done)), H', ⟨by first | omega | exact Nat.le_refl _⟩, ⟨by (with_reducible repeat (first | apply Kd.R_alloc | apply Kd.R_drewN | apply Kd.R_drew)); exact HO175.out⟩, ⟨by repeat (first | (with_reducible first | exact HB.out | apply below_alloc | apply pw_below_drewN | apply below_drew1) | exact HB.out)⟩⟩
    · rw [if_neg c7] at H
      have c7b0 : decide (a1 < 0) = false := decide_eq_false c7
      clear c7
      (first | rw [c7b0] | (simp only [i64_w, i32_w]; rw [c7b0]) | skip)
      have H' := Aside0.mk H
      clear H
      go_wp2
      go_meet
      case rel => exact ⟨_, (a1), (by first | rfl | (simp; done) | (simp [*]; done)), H', ⟨by first | omega | exact Nat.le_refl _⟩, ⟨by (with_reducible repeat (first | apply Kd.R_alloc | apply Kd.R_drewN | apply Kd.R_drew)); exact HO175.out⟩, ⟨by repeat (first | (with_reducible first | exact HB.out | apply below_alloc | apply pw_below_drewN | apply below_drew1) | exact HB.out)⟩⟩
  case rest =>
    clear HC4
    try clear c2
    try clear p2
    try clear c7
    try clear c7b0
    obtain ⟨kq, x1_3, rfl, HA, HJ3, HO_7, HB⟩ := hcut
    cases kq with
    | zero => exact absurd HA.out (by simp [stoaref01_Piece.j0])
    | succ kj3 =>
      have H := HA.out
      clear HA
      simp only [stoaref01_Piece.j0] at H
      have H' := Aside0.mk H
      clear H
      go_wp2
      go_loopg [7, 8] kj3 (fun kq v7 v8 w' => ∃ (x7_2 : List Int) (x8_2 : Int), v8 = .int .i64 x8_2 ∧ Aside0 (stoaref01_Piece.l0 kq l0 a2 x7_2 x8_2 = some r) ∧ Aside0 (kq ≤ kj3) ∧ Aside0 (Kd.R (Kd.int .u8) 5 w' w.heap.size (fun _ => True) v7 x7_2) ∧ Aside0 (Below w.heap.size w w'))
      case atStart => exact ⟨(y173), (x1_3), (by first | rfl | (simp; done) | (simp [*]; done)), H', ⟨Nat.le_refl _⟩, ⟨by (with_reducible repeat (first | apply Kd.R_alloc | apply Kd.R_drewN | apply Kd.R_drew)); exact HO_7.out⟩, ⟨by repeat (first | (with_reducible first | exact HB.out | apply below_alloc | apply pw_below_drewN | apply below_drew1) | exact HB.out)⟩⟩
      case round =>
        clear H'
        try clear c2
        try clear p2
        try clear c7
        try clear c7b0
        try clear p2
        obtain ⟨x7_2, x8_2, rfl, HA, HK2, HO_7, HB⟩ := hrel
        cases gk with
        | zero => exact absurd HA.out (by simp [stoaref01_Piece.l0])
        | succ k2 =>
          have H := HA.out
          clear HA
          simp only [stoaref01_Piece.l0] at H
          by_cases c8 : x8_2 < (l0.length : Int)
          · rw [if_pos c8] at H
            have c8b0 : decide (x8_2 < (l0.length : Int)) = true := decide_eq_true c8
            clear c8
            by_cases c9 : x8_2 < a2
            · rw [if_pos c9] at H
              have c9b0 : decide (x8_2 < a2) = true := decide_eq_true c9
              clear c9
              by_cases c10 : 0 ≤ x8_2
              · rw [if_pos c10] at H
                have c10b0 : decide (0 ≤ x8_2) = true := decide_eq_true c10
                clear c10
                by_cases c11 : x7_2.length < 140737488355328
                · rw [if_pos c11] at H
                  have LMc11 := Aside0.mk c11
                  clear c11
                  obtain ⟨y177, hy177⟩ : ∃ y_ : List Int, y_ = (x7_2 ++ [rd l0 x8_2]) := ⟨_, rfl⟩
                  replace H : (stoaref01_Piece.l0 k2 l0 a2 y177 (wrap64 (x8_2 + 1))) = some r := by first | (rw [hy177]; with_reducible exact H) | (have H2_ := (Option.bind_some _ _).symm.trans H; rw [hy177]; with_reducible exact H2_) | (have H2_ := (Option.bind_some _ _).symm.trans H; with_reducible exact H2_) | with_reducible exact H | (rw [hy177]; exact H) | exact H
                  have Ny177 := Aside0.mk hy177
                  clear hy177
                  have H' := Aside0.mk H
                  clear H
                  have p176 : 0 ≤ (x8_2 : Int) := of_decide_eq_true (by first | (with_reducible assumption) | assumption)
                  have q176 : x8_2 < (l0.length : Int) := of_decide_eq_true (by first | (with_reducible assumption) | assumption)
                  obtain ⟨ad176, e176, hx176_0⟩ := Kd.at_int HR0.out x8_2 p176 q176
                  cases e176
                  replace hx176_0 := (HB.out.cell (World.block_lt_of_cell? w _ hx176_0)).trans hx176_0
                  replace p176 := eq_true p176
                  replace q176 := eq_true q176
                  go_wp2_with (first | ((with_reducible refine gate_builtin (b := .append) (xs := #[.tmp 24, .tmp 29]) rfl ?_); at_builtin; refine Kd.R_append (Kd.int .u8) (w0 := w) w.heap.size rfl (.tmp 24) (.tmp 29) 26 5 (.int .u8 0) 1 rfl Try.underlying26 info5 rfl (by decide) (by omega) u7 x7_2 (rd l0 x8_2) [.int .u8 (rd l0 x8_2)] (fun _ => True) (fun _ => False) rfl rfl ?aP (fun _ hk => hk.elim) ?aF ?aO ?aB ?aS ?aL ?_; (case aP => exact rfl); (case aB => exact (by repeat (first | (with_reducible first | exact HB.out | apply below_alloc | apply pw_below_drewN | apply below_drew1) | exact HB.out))); (case aF => exact (fun _ _ => trivial)); (case aO => exact (by (with_reducible repeat (first | apply Kd.R_alloc | apply Kd.R_drewN | apply Kd.R_drew)); exact HO_7.out)); (case aS => exact (below_size (by repeat (first | (with_reducible first | exact HB.out | apply below_alloc | apply pw_below_drewN | apply below_drew1) | exact HB.out)))); (case aL => have := LMc11.out; omega); intro v178 w12 ho hb hg hat; rw [← Ny177.out] at ho; have n0_ := Aside0.mk (hb); have n1_ := Aside0.mk (ho); clear HB; clear HO_7; have HB := n0_; have HO179 := n1_; clear n0_ n1_; clear ho hb hg hat))
                  go_roundg k2
                  case measure => have := HJ3.out; have := HK2.out; omega
                  case rel => exact ⟨(y177), (wrap64 (x8_2 + 1)), (by first | rfl | (simp; done) | (simp [*]; done)), H', ⟨by have := HJ3.out; have := HK2.out; omega⟩, ⟨by (with_reducible repeat (first | apply Kd.R_alloc | apply Kd.R_drewN | apply Kd.R_drew)); exact HO179.out⟩, ⟨by repeat (first | (with_reducible first | exact HB.out | apply below_alloc | apply pw_below_drewN | apply below_drew1) | exact HB.out)⟩⟩
                · rw [if_neg c11] at H
                  exact absurd H (by simp)
              · rw [if_neg c10] at H
                exact absurd H (by simp)
            · rw [if_neg c9] at H
              have c9b0 : decide (x8_2 < a2) = false := decide_eq_false c9
              clear c9
              obtain rfl := Option.some.inj H
              go_wp2
              go_ret
              exact ⟨_, by first | rfl | (simp [errW_none, errW_some] <;> rfl) | (simp [*, errW_none, errW_some] <;> rfl), by (with_reducible repeat (first | apply Kd.R_alloc | apply Kd.R_drewN | apply Kd.R_drew)); exact HO_7.out, by repeat (first | (with_reducible first | exact HB.out | apply below_alloc | apply pw_below_drewN | apply below_drew1) | exact HB.out)⟩
          · rw [if_neg c8] at H
            have c8b0 : decide (x8_2 < (l0.length : Int)) = false := decide_eq_false c8
            clear c8
            obtain rfl := Option.some.inj H
            go_wp2
            go_ret
            exact ⟨_, by first | rfl | (simp [errW_none, errW_some] <;> rfl) | (simp [*, errW_none, errW_some] <;> rfl), by (with_reducible repeat (first | apply Kd.R_alloc | apply Kd.R_drewN | apply Kd.R_drew)); exact HO_7.out, by repeat (first | (with_reducible first | exact HB.out | apply below_alloc | apply pw_below_drewN | apply below_drew1) | exact HB.out)⟩

/-! ### stoalaw02_VintBack: function 6 -/
def stoalaw02_VintBack.j0 : Nat → Int → Int → Bool → Option (Bool)
  | 0, _, _, _ => none
  | k + 1, x0, x1, x71 => if x71 = true then (some false) else (if x1 ≤ x0 then ((vint_Size.f k x1).bind fun t199 => ((vint_Size.f k x0).bind fun t200 => (if t199 ≤ t200 then (some true) else (if x1 > x0 then ((vint_Size.f k x1).bind fun t201 => ((vint_Size.f k x0).bind fun t202 => (some (decide (t201 ≥ t202))))) else (some false))))) else (if x1 > x0 then ((vint_Size.f k x1).bind fun t203 => ((vint_Size.f k x0).bind fun t204 => (some (decide (t203 ≥ t204))))) else (some false)))
def stoalaw02_VintBack.f (k : Nat) (a0 : Int) (a1 : Int) (l2 : List Int) (l3 : List Int) : Option (Bool) := (stoalaw02_alive.f k).bind fun t180 => (if t180 = true then ((vint_Put.f k a0).bind fun t181 => ((stoaref01_Cat.f k l2 t181).bind fun t184 => ((stoaref01_Cat.f k t184 l3).bind fun t187 => ((vint_Get.f k t187 (l2.length : Int)).bind fun bt190 => ((stoaref01_Piece.f k t181 0 (wrap64 ((t181.length : Int) - 1))).bind fun t193 => ((vint_Get.f k t193 0).bind fun bt196 => (if bt190.1 = a0 then (if bt190.2.1 = (wrap64 ((l2.length : Int) + (t181.length : Int))) then (if bt190.2.2 = 0 then (if bt196.2.2 = 2 then (if (t181.length : Int) < 1 then (stoalaw02_VintBack.j0 k a0 a1 true) else (stoalaw02_VintBack.j0 k a0 a1 (decide ((t181.length : Int) > 10)))) else (stoalaw02_VintBack.j0 k a0 a1 true)) else (stoalaw02_VintBack.j0 k a0 a1 true)) else (stoalaw02_VintBack.j0 k a0 a1 true)) else (stoalaw02_VintBack.j0 k a0 a1 true)))))))) else (some false))
theorem stoalaw02_VintBack.mono_l : ∀ k, (∀ y0 y1 y2, LeO (stoalaw02_VintBack.j0 k y0 y1 y2) (stoalaw02_VintBack.j0 (k + 1) y0 y1 y2))
  | 0 => fun _ _ _ r h => by simp [stoalaw02_VintBack.j0] at h
  | k + 1 => by
    have ih0 := stoalaw02_VintBack.mono_l k
    · intro y0 y1 y2
      unfold stoalaw02_VintBack.j0
      repeat' first
      | (with_reducible exact ih0 _ _ _)
      | (with_reducible exact stoalaw02_alive.mono _)
      | (with_reducible exact stoaref01_Cat.mono _ _ _)
      | (with_reducible exact stoaref01_Piece.mono _ _ _ _)
      | (with_reducible exact vint_Get.mono _ _ _)
      | (with_reducible exact vint_Put.mono _ _)
      | (with_reducible exact vint_Size.mono _ _)
      | (with_reducible exact LeO.refl _)
      | (with_reducible exact LeO.none _)
      | (with_reducible refine LeO.ite ?_ ?_)
      | (with_reducible refine LeO.bind ?_ (fun _ => ?_))
      | exact ih0 _ _ _
      | exact stoalaw02_alive.mono _
      | exact stoaref01_Cat.mono _ _ _
      | exact stoaref01_Piece.mono _ _ _ _
      | exact vint_Get.mono _ _ _
      | exact vint_Put.mono _ _
      | exact vint_Size.mono _ _
      | exact LeO.none _
      | refine LeO.ite ?_ ?_
      | refine LeO.bind ?_ (fun _ => ?_)
theorem stoalaw02_VintBack.mono : ∀ a0 a1 a2 a3 k, LeO (stoalaw02_VintBack.f k a0 a1 a2 a3) (stoalaw02_VintBack.f (k + 1) a0 a1 a2 a3) := by
  intro a0 a1 a2 a3 k
  have ih0 := stoalaw02_VintBack.mono_l k
  unfold stoalaw02_VintBack.f
  repeat' first
      | (with_reducible exact ih0 _ _ _)
      | (with_reducible exact stoalaw02_alive.mono _)
      | (with_reducible exact stoaref01_Cat.mono _ _ _)
      | (with_reducible exact stoaref01_Piece.mono _ _ _ _)
      | (with_reducible exact vint_Get.mono _ _ _)
      | (with_reducible exact vint_Put.mono _ _)
      | (with_reducible exact vint_Size.mono _ _)
      | (with_reducible exact LeO.refl _)
      | (with_reducible exact LeO.none _)
      | (with_reducible refine LeO.ite ?_ ?_)
      | (with_reducible refine LeO.bind ?_ (fun _ => ?_))
      | exact ih0 _ _ _
      | exact stoalaw02_alive.mono _
      | exact stoaref01_Cat.mono _ _ _
      | exact stoaref01_Piece.mono _ _ _ _
      | exact vint_Get.mono _ _ _
      | exact vint_Put.mono _ _
      | exact vint_Size.mono _ _
      | exact LeO.none _
      | refine LeO.ite ?_ ?_
      | refine LeO.bind ?_ (fun _ => ?_)
set_option maxHeartbeats 8000000 in
set_option maxRecDepth 100000 in
theorem stoalaw02_VintBack.calls (k : Nat) (a0 : Int) (a1 : Int) (A2 : Option Addr) (c2 : Nat) (l2 : List Int) (A3 : Option Addr) (c3 : Nat) (l3 : List Int) (r : Bool) (w : World) (hr2 : Kd.C (Kd.int .u8) w A2 l2.length l2) (hc2 : l2.length ≤ c2) (hr3 : Kd.C (Kd.int .u8) w A3 l3.length l3) (hc3 : l3.length ≤ c3) (h : stoalaw02_VintBack.f k a0 a1 l2 l3 = some r) :
    Calls Try.prog 6 #[.int .u64 a0, .int .u64 a1, .slice A2 l2.length c2, .slice A3 l3.length c3] w fun e w' => e = .returned (.bool r) ∧ Below w.heap.size w w' := by
  have HR2 := Aside0.mk hr2
  have HC2 := Aside0.mk hc2
  clear hr2 hc2
  have HR3 := Aside0.mk hr3
  have HC3 := Aside0.mk hc3
  clear hr3 hc3
  have HB := Aside0.mk (Below.refl w.heap.size w)
  have H : ((stoalaw02_alive.f k).bind fun t180 => (if t180 = true then ((vint_Put.f k a0).bind fun t181 => ((stoaref01_Cat.f k l2 t181).bind fun t184 => ((stoaref01_Cat.f k t184 l3).bind fun t187 => ((vint_Get.f k t187 (l2.length : Int)).bind fun bt190 => ((stoaref01_Piece.f k t181 0 (wrap64 ((t181.length : Int) - 1))).bind fun t193 => ((vint_Get.f k t193 0).bind fun bt196 => (if bt190.1 = a0 then (if bt190.2.1 = (wrap64 ((l2.length : Int) + (t181.length : Int))) then (if bt190.2.2 = 0 then (if bt196.2.2 = 2 then (if (t181.length : Int) < 1 then (stoalaw02_VintBack.j0 k a0 a1 true) else (stoalaw02_VintBack.j0 k a0 a1 (decide ((t181.length : Int) > 10)))) else (stoalaw02_VintBack.j0 k a0 a1 true)) else (stoalaw02_VintBack.j0 k a0 a1 true)) else (stoalaw02_VintBack.j0 k a0 a1 true)) else (stoalaw02_VintBack.j0 k a0 a1 true)))))))) else (some false))) = some r := h
  clear h
  replace H := Option.bind_eq_some_iff.mp H
  obtain ⟨t180, A50, H⟩ := H
  replace H : (if t180 = true then ((vint_Put.f k a0).bind fun t181 => ((stoaref01_Cat.f k l2 t181).bind fun t184 => ((stoaref01_Cat.f k t184 l3).bind fun t187 => ((vint_Get.f k t187 (l2.length : Int)).bind fun bt190 => ((stoaref01_Piece.f k t181 0 (wrap64 ((t181.length : Int) - 1))).bind fun t193 => ((vint_Get.f k t193 0).bind fun bt196 => (if bt190.1 = a0 then (if bt190.2.1 = (wrap64 ((l2.length : Int) + (t181.length : Int))) then (if bt190.2.2 = 0 then (if bt196.2.2 = 2 then (if (t181.length : Int) < 1 then (stoalaw02_VintBack.j0 k a0 a1 true) else (stoalaw02_VintBack.j0 k a0 a1 (decide ((t181.length : Int) > 10)))) else (stoalaw02_VintBack.j0 k a0 a1 true)) else (stoalaw02_VintBack.j0 k a0 a1 true)) else (stoalaw02_VintBack.j0 k a0 a1 true)) else (stoalaw02_VintBack.j0 k a0 a1 true)))))))) else (some false)) = some r := H
  have A5 := Aside0.mk A50
  clear A50
  by_cases c6 : t180 = true
  · subst c6
    have H1 : ((vint_Put.f k a0).bind fun t181 => ((stoaref01_Cat.f k l2 t181).bind fun t184 => ((stoaref01_Cat.f k t184 l3).bind fun t187 => ((vint_Get.f k t187 (l2.length : Int)).bind fun bt190 => ((stoaref01_Piece.f k t181 0 (wrap64 ((t181.length : Int) - 1))).bind fun t193 => ((vint_Get.f k t193 0).bind fun bt196 => (if bt190.1 = a0 then (if bt190.2.1 = (wrap64 ((l2.length : Int) + (t181.length : Int))) then (if bt190.2.2 = 0 then (if bt196.2.2 = 2 then (if (t181.length : Int) < 1 then (stoalaw02_VintBack.j0 k a0 a1 true) else (stoalaw02_VintBack.j0 k a0 a1 (decide ((t181.length : Int) > 10)))) else (stoalaw02_VintBack.j0 k a0 a1 true)) else (stoalaw02_VintBack.j0 k a0 a1 true)) else (stoalaw02_VintBack.j0 k a0 a1 true)) else (stoalaw02_VintBack.j0 k a0 a1 true)))))))) = some r := by rw [if_pos rfl] at H; exact H
    clear H
    have H := H1
    clear H1
    replace H := Option.bind_eq_some_iff.mp H
    obtain ⟨t181, A70, H⟩ := H
    replace H : ((stoaref01_Cat.f k l2 t181).bind fun t184 => ((stoaref01_Cat.f k t184 l3).bind fun t187 => ((vint_Get.f k t187 (l2.length : Int)).bind fun bt190 => ((stoaref01_Piece.f k t181 0 (wrap64 ((t181.length : Int) - 1))).bind fun t193 => ((vint_Get.f k t193 0).bind fun bt196 => (if bt190.1 = a0 then (if bt190.2.1 = (wrap64 ((l2.length : Int) + (t181.length : Int))) then (if bt190.2.2 = 0 then (if bt196.2.2 = 2 then (if (t181.length : Int) < 1 then (stoalaw02_VintBack.j0 k a0 a1 true) else (stoalaw02_VintBack.j0 k a0 a1 (decide ((t181.length : Int) > 10)))) else (stoalaw02_VintBack.j0 k a0 a1 true)) else (stoalaw02_VintBack.j0 k a0 a1 true)) else (stoalaw02_VintBack.j0 k a0 a1 true)) else (stoalaw02_VintBack.j0 k a0 a1 true))))))) = some r := H
    have A7 := Aside0.mk A70
    clear A70
    replace H := Option.bind_eq_some_iff.mp H
    obtain ⟨t184, A80, H⟩ := H
    replace H : ((stoaref01_Cat.f k t184 l3).bind fun t187 => ((vint_Get.f k t187 (l2.length : Int)).bind fun bt190 => ((stoaref01_Piece.f k t181 0 (wrap64 ((t181.length : Int) - 1))).bind fun t193 => ((vint_Get.f k t193 0).bind fun bt196 => (if bt190.1 = a0 then (if bt190.2.1 = (wrap64 ((l2.length : Int) + (t181.length : Int))) then (if bt190.2.2 = 0 then (if bt196.2.2 = 2 then (if (t181.length : Int) < 1 then (stoalaw02_VintBack.j0 k a0 a1 true) else (stoalaw02_VintBack.j0 k a0 a1 (decide ((t181.length : Int) > 10)))) else (stoalaw02_VintBack.j0 k a0 a1 true)) else (stoalaw02_VintBack.j0 k a0 a1 true)) else (stoalaw02_VintBack.j0 k a0 a1 true)) else (stoalaw02_VintBack.j0 k a0 a1 true)))))) = some r := H
    have A8 := Aside0.mk A80
    clear A80
    replace H := Option.bind_eq_some_iff.mp H
    obtain ⟨t187, A90, H⟩ := H
    replace H : ((vint_Get.f k t187 (l2.length : Int)).bind fun bt190 => ((stoaref01_Piece.f k t181 0 (wrap64 ((t181.length : Int) - 1))).bind fun t193 => ((vint_Get.f k t193 0).bind fun bt196 => (if bt190.1 = a0 then (if bt190.2.1 = (wrap64 ((l2.length : Int) + (t181.length : Int))) then (if bt190.2.2 = 0 then (if bt196.2.2 = 2 then (if (t181.length : Int) < 1 then (stoalaw02_VintBack.j0 k a0 a1 true) else (stoalaw02_VintBack.j0 k a0 a1 (decide ((t181.length : Int) > 10)))) else (stoalaw02_VintBack.j0 k a0 a1 true)) else (stoalaw02_VintBack.j0 k a0 a1 true)) else (stoalaw02_VintBack.j0 k a0 a1 true)) else (stoalaw02_VintBack.j0 k a0 a1 true))))) = some r := H
    have A9 := Aside0.mk A90
    clear A90
    replace H := Option.bind_eq_some_iff.mp H
    obtain ⟨⟨t190, t191, t192⟩, A100, H⟩ := H
    replace H : ((stoaref01_Piece.f k t181 0 (wrap64 ((t181.length : Int) - 1))).bind fun t193 => ((vint_Get.f k t193 0).bind fun bt196 => (if t190 = a0 then (if t191 = (wrap64 ((l2.length : Int) + (t181.length : Int))) then (if t192 = 0 then (if bt196.2.2 = 2 then (if (t181.length : Int) < 1 then (stoalaw02_VintBack.j0 k a0 a1 true) else (stoalaw02_VintBack.j0 k a0 a1 (decide ((t181.length : Int) > 10)))) else (stoalaw02_VintBack.j0 k a0 a1 true)) else (stoalaw02_VintBack.j0 k a0 a1 true)) else (stoalaw02_VintBack.j0 k a0 a1 true)) else (stoalaw02_VintBack.j0 k a0 a1 true)))) = some r := H
    have A10 := Aside0.mk A100
    clear A100
    replace H := Option.bind_eq_some_iff.mp H
    obtain ⟨t193, A110, H⟩ := H
    replace H : ((vint_Get.f k t193 0).bind fun bt196 => (if t190 = a0 then (if t191 = (wrap64 ((l2.length : Int) + (t181.length : Int))) then (if t192 = 0 then (if bt196.2.2 = 2 then (if (t181.length : Int) < 1 then (stoalaw02_VintBack.j0 k a0 a1 true) else (stoalaw02_VintBack.j0 k a0 a1 (decide ((t181.length : Int) > 10)))) else (stoalaw02_VintBack.j0 k a0 a1 true)) else (stoalaw02_VintBack.j0 k a0 a1 true)) else (stoalaw02_VintBack.j0 k a0 a1 true)) else (stoalaw02_VintBack.j0 k a0 a1 true))) = some r := H
    have A11 := Aside0.mk A110
    clear A110
    replace H := Option.bind_eq_some_iff.mp H
    obtain ⟨⟨t196, t197, t198⟩, A120, H⟩ := H
    replace H : (if t190 = a0 then (if t191 = (wrap64 ((l2.length : Int) + (t181.length : Int))) then (if t192 = 0 then (if t198 = 2 then (if (t181.length : Int) < 1 then (stoalaw02_VintBack.j0 k a0 a1 true) else (stoalaw02_VintBack.j0 k a0 a1 (decide ((t181.length : Int) > 10)))) else (stoalaw02_VintBack.j0 k a0 a1 true)) else (stoalaw02_VintBack.j0 k a0 a1 true)) else (stoalaw02_VintBack.j0 k a0 a1 true)) else (stoalaw02_VintBack.j0 k a0 a1 true)) = some r := H
    have A12 := Aside0.mk A120
    clear A120
    have HC13 := Aside0.mk H
    clear H
    go_enter Try.func6, Try.ntmps6
    go_upto_region 6 with (first | ((with_reducible refine gate_callee (f := 8) rfl ?_); refine goesL_ (some 16) rfl rfl Try.func8 (by kernel_rfl) rfl #[] rfl (by (try simp only [List.map_toArray, List.map_cons, List.map_nil]); first | done | rfl | (simp only [List.length_drop, List.length_take]; rfl)) ?_; (with_reducible refine (stoalaw02_alive.calls k  true _ A5.out).mono ?_); rintro e w14 ⟨rfl, hb⟩; refine ⟨_, rfl, ?_⟩; have n0_ := Aside0.mk (below_step (by repeat (first | (with_reducible first | exact HB.out | apply below_alloc | apply pw_below_drewN | apply below_drew1) | exact HB.out)) hb); clear HB; have HB := n0_; clear n0_; (try clear hb); (try clear hb2); (try clear hk); (try clear hi)) | ((with_reducible refine gate_callee (f := 16) rfl ?_); refine goesL_ (some 19) rfl rfl Try.func16 (by kernel_rfl) rfl #[.int .u64 a0] rfl (by (try simp only [List.map_toArray, List.map_cons, List.map_nil]); first | done | rfl | (simp only [List.length_drop, List.length_take]; rfl)) ?_; (with_reducible refine (vint_Put.calls k a0 t181 _ A7.out).mono ?_); rintro e w15 ⟨v182, rfl, ho0, hb⟩; refine ⟨_, rfl, ?_⟩; have n0_ := Aside0.mk (Kd.R_lower ho0 (below_size (by repeat (first | (with_reducible first | exact HB.out | apply below_alloc | apply pw_below_drewN | apply below_drew1) | exact HB.out)))); have n1_ := Aside0.mk (below_step (by repeat (first | (with_reducible first | exact HB.out | apply below_alloc | apply pw_below_drewN | apply below_drew1) | exact HB.out)) hb); clear HB; have HO183 := n0_; have HB := n1_; clear n0_ n1_; (try clear hb); (try clear hb2); (try clear hk); (try clear hi); (try clear ho0); obtain ⟨Ao16, co16, eo16⟩ := Kd.R_slice HO183.out; subst eo16) | ((with_reducible refine gate_callee (f := 23) rfl ?_); refine goesL_ (some 23) rfl rfl Try.func23 (by kernel_rfl) rfl #[.slice A2 l2.length c2, .slice Ao16 t181.length co16] rfl (by (try simp only [List.map_toArray, List.map_cons, List.map_nil]); first | done | rfl | (simp only [List.length_drop, List.length_take]; rfl)) ?_; (with_reducible refine (stoaref01_Cat.calls k _ _ l2 _ _ t181 t184 _ ?side1 ?side2 ?side3 ?side4 A8.out).mono ?_); (case side1 => repeat (first | exact (Kd.C_below HR2.out HB.out) | (with_reducible refine Kd.C_alloc ?_ _) | (with_reducible refine Kd.C_drewN ?_ _) | (with_reducible refine Kd.C_drew ?_))); (case side2 => exact HC2.out); (case side3 => repeat (first | exact (Kd.R_reads' HO183.out).2.2 | (with_reducible refine Kd.C_alloc ?_ _) | (with_reducible refine Kd.C_drewN ?_ _) | (with_reducible refine Kd.C_drew ?_))); (case side4 => exact (Kd.R_reads' HO183.out).2.1); rintro e w17 ⟨v185, rfl, ho0, hb⟩; refine ⟨_, rfl, ?_⟩; have n0_ := Aside0.mk (Kd.R_elder' (by (with_reducible repeat (first | apply Kd.R_alloc | apply Kd.R_drewN | apply Kd.R_drew)); exact HO183.out) (Kd.R_base ho0) hb); have n1_ := Aside0.mk (Kd.R_lower (Kd.R_new' ho0 (Kd.R_lt (by (with_reducible repeat (first | apply Kd.R_alloc | apply Kd.R_drewN | apply Kd.R_drew)); exact HO183.out))) (below_size (by repeat (first | (with_reducible first | exact HB.out | apply below_alloc | apply pw_below_drewN | apply below_drew1) | exact HB.out)))); have n2_ := Aside0.mk (below_step (by repeat (first | (with_reducible first | exact HB.out | apply below_alloc | apply pw_below_drewN | apply below_drew1) | exact HB.out)) hb); clear HO183; clear HB; have HO183 := n0_; have HO186 := n1_; have HB := n2_; clear n0_ n1_ n2_; (try clear hb); (try clear hb2); (try clear hk); (try clear hi); (try clear ho0); obtain ⟨Ao18, co18, eo18⟩ := Kd.R_slice HO186.out; subst eo18) | ((with_reducible refine gate_callee (f := 23) rfl ?_); refine goesL_ (some 25) rfl rfl Try.func23 (by kernel_rfl) rfl #[.slice Ao18 t184.length co18, .slice A3 l3.length c3] rfl (by (try simp only [List.map_toArray, List.map_cons, List.map_nil]); first | done | rfl | (simp only [List.length_drop, List.length_take]; rfl)) ?_; (with_reducible refine (stoaref01_Cat.calls k _ _ t184 _ _ l3 t187 _ ?side1 ?side2 ?side3 ?side4 A9.out).mono ?_); (case side1 => repeat (first | exact (Kd.R_reads' HO186.out).2.2 | (with_reducible refine Kd.C_alloc ?_ _) | (with_reducible refine Kd.C_drewN ?_ _) | (with_reducible refine Kd.C_drew ?_))); (case side2 => exact (Kd.R_reads' HO186.out).2.1); (case side3 => repeat (first | exact (Kd.C_below HR3.out HB.out) | (with_reducible refine Kd.C_alloc ?_ _) | (with_reducible refine Kd.C_drewN ?_ _) | (with_reducible refine Kd.C_drew ?_))); (case side4 => exact HC3.out); rintro e w19 ⟨v188, rfl, ho0, hb⟩; refine ⟨_, rfl, ?_⟩; have n0_ := Aside0.mk (Kd.R_elder' (by (with_reducible repeat (first | apply Kd.R_alloc | apply Kd.R_drewN | apply Kd.R_drew)); exact HO183.out) (Kd.R_base ho0) hb); have n1_ := Aside0.mk (Kd.R_elder' (by (with_reducible repeat (first | apply Kd.R_alloc | apply Kd.R_drewN | apply Kd.R_drew)); exact HO186.out) (Kd.R_base ho0) hb); have n2_ := Aside0.mk (Kd.R_lower (Kd.R_new' (Kd.R_new' ho0 (Kd.R_lt (by (with_reducible repeat (first | apply Kd.R_alloc | apply Kd.R_drewN | apply Kd.R_drew)); exact HO183.out))) (Kd.R_lt (by (with_reducible repeat (first | apply Kd.R_alloc | apply Kd.R_drewN | apply Kd.R_drew)); exact HO186.out))) (below_size (by repeat (first | (with_reducible first | exact HB.out | apply below_alloc | apply pw_below_drewN | apply below_drew1) | exact HB.out)))); have n3_ := Aside0.mk (below_step (by repeat (first | (with_reducible first | exact HB.out | apply below_alloc | apply pw_below_drewN | apply below_drew1) | exact HB.out)) hb); clear HO183; clear HO186; clear HB; have HO183 := n0_; have HO186 := n1_; have HO189 := n2_; have HB := n3_; clear n0_ n1_ n2_ n3_; (try clear hb); (try clear hb2); (try clear hk); (try clear hi); (try clear ho0); obtain ⟨Ao20, co20, eo20⟩ := Kd.R_slice HO189.out; subst eo20) | ((with_reducible refine gate_callee (f := 18) rfl ?_); refine goesL_ (some 28) rfl rfl Try.func18 (by kernel_rfl) rfl #[.slice Ao20 t187.length co20, .int .i64 (l2.length : Int)] rfl (by (try simp only [List.map_toArray, List.map_cons, List.map_nil]); first | done | rfl | (simp only [List.length_drop, List.length_take]; rfl)) ?_; (with_reducible refine (vint_Get.calls k _ _ t187 (l2.length : Int) t190 t191 t192 _ ?side1 ?side2 A10.out).mono ?_); (case side1 => repeat (first | exact (Kd.R_reads' HO189.out).2.2 | (with_reducible refine Kd.C_alloc ?_ _) | (with_reducible refine Kd.C_drewN ?_ _) | (with_reducible refine Kd.C_drew ?_))); (case side2 => exact (Kd.R_reads' HO189.out).2.1); rintro e w' ⟨rfl, ⟨nd, rfl⟩⟩; refine ⟨_, rfl, ?_⟩) | ((with_reducible refine gate_callee (f := 24) rfl ?_); refine goesL_ (some 37) rfl rfl Try.func24 (by kernel_rfl) rfl #[.slice Ao16 t181.length co16, .int .i64 0, .int .i64 (wrap64 ((t181.length : Int) - 1))] rfl (by (try simp only [List.map_toArray, List.map_cons, List.map_nil]); first | done | rfl | (simp only [List.length_drop, List.length_take]; rfl)) ?_; (with_reducible refine (stoaref01_Piece.calls k _ _ t181 0 (wrap64 ((t181.length : Int) - 1)) t193 _ ?side1 ?side2 A11.out).mono ?_); (case side1 => repeat (first | exact (Kd.R_reads' HO183.out).2.2 | (with_reducible refine Kd.C_alloc ?_ _) | (with_reducible refine Kd.C_drewN ?_ _) | (with_reducible refine Kd.C_drew ?_))); (case side2 => exact (Kd.R_reads' HO183.out).2.1); rintro e w21 ⟨v194, rfl, ho0, hb⟩; refine ⟨_, rfl, ?_⟩; have n0_ := Aside0.mk (Kd.R_elder' (by (with_reducible repeat (first | apply Kd.R_alloc | apply Kd.R_drewN | apply Kd.R_drew)); exact HO183.out) (Kd.R_base ho0) hb); have n1_ := Aside0.mk (Kd.R_elder' (by (with_reducible repeat (first | apply Kd.R_alloc | apply Kd.R_drewN | apply Kd.R_drew)); exact HO186.out) (Kd.R_base ho0) hb); have n2_ := Aside0.mk (Kd.R_elder' (by (with_reducible repeat (first | apply Kd.R_alloc | apply Kd.R_drewN | apply Kd.R_drew)); exact HO189.out) (Kd.R_base ho0) hb); have n3_ := Aside0.mk (Kd.R_lower (Kd.R_new' (Kd.R_new' (Kd.R_new' ho0 (Kd.R_lt (by (with_reducible repeat (first | apply Kd.R_alloc | apply Kd.R_drewN | apply Kd.R_drew)); exact HO183.out))) (Kd.R_lt (by (with_reducible repeat (first | apply Kd.R_alloc | apply Kd.R_drewN | apply Kd.R_drew)); exact HO186.out))) (Kd.R_lt (by (with_reducible repeat (first | apply Kd.R_alloc | apply Kd.R_drewN | apply Kd.R_drew)); exact HO189.out))) (below_size (by repeat (first | (with_reducible first | exact HB.out | apply below_alloc | apply pw_below_drewN | apply below_drew1) | exact HB.out)))); have n4_ := Aside0.mk (below_step (by repeat (first | (with_reducible first | exact HB.out | apply below_alloc | apply pw_below_drewN | apply below_drew1) | exact HB.out)) hb); clear HO183; clear HO186; clear HO189; clear HB; have HO183 := n0_; have HO186 := n1_; have HO189 := n2_; have HO195 := n3_; have HB := n4_; clear n0_ n1_ n2_ n3_ n4_; (try clear hb); (try clear hb2); (try clear hk); (try clear hi); (try clear ho0); obtain ⟨Ao22, co22, eo22⟩ := Kd.R_slice HO195.out; subst eo22) | ((with_reducible refine gate_callee (f := 18) rfl ?_); refine goesL_ (some 38) rfl rfl Try.func18 (by kernel_rfl) rfl #[.slice Ao22 t193.length co22, .int .i64 0] rfl (by (try simp only [List.map_toArray, List.map_cons, List.map_nil]); first | done | rfl | (simp only [List.length_drop, List.length_take]; rfl)) ?_; (with_reducible refine (vint_Get.calls k _ _ t193 0 t196 t197 t198 _ ?side1 ?side2 A12.out).mono ?_); (case side1 => repeat (first | exact (Kd.R_reads' HO195.out).2.2 | (with_reducible refine Kd.C_alloc ?_ _) | (with_reducible refine Kd.C_drewN ?_ _) | (with_reducible refine Kd.C_drew ?_))); (case side2 => exact (Kd.R_reads' HO195.out).2.1); rintro e w' ⟨rfl, ⟨nd, rfl⟩⟩; refine ⟨_, rfl, ?_⟩))
    (try simp only [Act.put, List.setIfInBounds_toArray, List.set_cons_zero, List.set_cons_succ])
    go_cut [71] (fun v71 wc => ∃ (kq : Nat) (x71_12 : Bool), v71 = .bool x71_12 ∧ Aside0 (stoalaw02_VintBack.j0 kq a0 a1 x71_12 = some r) ∧ Aside0 (kq ≤ k) ∧ Aside0 (Below w.heap.size w wc))
    case first =>
      have H := HC13.out
      clear HC13
      by_cases c23 : t190 = a0
      · rw [if_pos c23] at H
        have c23b0 : (t190 == a0) = true := beq_iff_eq.mpr c23
        have c23b1 : (t190 != a0) = false := bne_eq_false_iff_eq.mpr c23
        clear c23
        (first | rw [c23b0] | (simp only [i64_w, i32_w]; rw [c23b0]) | skip)
        by_cases c24 : t191 = (wrap64 ((l2.length : Int) + (t181.length : Int)))
        · rw [if_pos c24] at H
          have c24b0 : (t191 == (wrap64 ((l2.length : Int) + (t181.length : Int)))) = true := beq_iff_eq.mpr c24
          have c24b1 : (t191 != (wrap64 ((l2.length : Int) + (t181.length : Int)))) = false := bne_eq_false_iff_eq.mpr c24
          clear c24
          by_cases c25 : t192 = 0
          · rw [if_pos c25] at H
            have c25b0 : (t192 == 0) = true := beq_iff_eq.mpr c25
            have c25b1 : (t192 != 0) = false := bne_eq_false_iff_eq.mpr c25
            clear c25
            by_cases c26 : t198 = 2
            · rw [if_pos c26] at H
              have c26b0 : (t198 == 2) = true := beq_iff_eq.mpr c26
              have c26b1 : (t198 != 2) = false := bne_eq_false_iff_eq.mpr c26
              clear c26
              by_cases c27 : (t181.length : Int) < 1
              · rw [if_pos c27] at H
                have c27b0 : decide ((t181.length : Int) < 1) = true := decide_eq_true c27
                have c27b1 : decide (t181.length < 1) = true := decide_eq_true (by omega)
                clear c27
                have H' := Aside0.mk H
                clear H
                go_wp2
                go_meet
                case rel => exact ⟨_, (true), (by first | rfl | (simp; done) | (simp [*]; done)), H', ⟨by first | omega | exact Nat.le_refl _⟩, ⟨by repeat (first | (with_reducible first | exact HB.out | apply below_alloc | apply pw_below_drewN | apply below_drew1) | exact HB.out)⟩⟩
              · rw [if_neg c27] at H
                have c27b0 : decide ((t181.length : Int) < 1) = false := decide_eq_false c27
                have c27b1 : decide (t181.length < 1) = false := decide_eq_false (by omega)
                clear c27
                have H' := Aside0.mk H
                clear H
                go_wp2
                go_meet
                case rel => exact ⟨_, (decide ((t181.length : Int) > 10)), (by first | rfl | (simp; done) | (simp [*]; done)), H', ⟨by first | omega | exact Nat.le_refl _⟩, ⟨by repeat (first | (with_reducible first | exact HB.out | apply below_alloc | apply pw_below_drewN | apply below_drew1) | exact HB.out)⟩⟩
            · rw [if_neg c26] at H
              have c26b0 : (t198 == 2) = false := beq_eq_false_iff_ne.mpr c26
              have c26b1 : (t198 != 2) = true := bne_iff_ne.mpr c26
              have H' := Aside0.mk H
              clear H
              go_wp2
              go_meet
              case rel => exact ⟨_, (true), (by first | rfl | (simp; done) | (simp [*]; done)), H', ⟨by first | omega | exact Nat.le_refl _⟩, ⟨by repeat (first | (with_reducible first | exact HB.out | apply below_alloc | apply pw_below_drewN | apply below_drew1) | exact HB.out)⟩⟩
          · rw [if_neg c25] at H
            have c25b0 : (t192 == 0) = false := beq_eq_false_iff_ne.mpr c25
            have c25b1 : (t192 != 0) = true := bne_iff_ne.mpr c25
            have H' := Aside0.mk H
            clear H
            go_wp2
            go_meet
            case rel => exact ⟨_, (true), (by first | rfl | (simp; done) | (simp [*]; done)), H', ⟨by first | omega | exact Nat.le_refl _⟩, ⟨by repeat (first | (with_reducible first | exact HB.out | apply below_alloc | apply pw_below_drewN | apply below_drew1) | exact HB.out)⟩⟩
        · rw [if_neg c24] at H
          have c24b0 : (t191 == (wrap64 ((l2.length : Int) + (t181.length : Int)))) = false := beq_eq_false_iff_ne.mpr c24
          have c24b1 : (t191 != (wrap64 ((l2.length : Int) + (t181.length : Int)))) = true := bne_iff_ne.mpr c24
          have H' := Aside0.mk H
          clear H
          go_wp2
          go_meet
          case rel => exact ⟨_, (true), (by first | rfl | (simp; done) | (simp [*]; done)), H', ⟨by first | omega | exact Nat.le_refl _⟩, ⟨by repeat (first | (with_reducible first | exact HB.out | apply below_alloc | apply pw_below_drewN | apply below_drew1) | exact HB.out)⟩⟩
      · rw [if_neg c23] at H
        have c23b0 : (t190 == a0) = false := beq_eq_false_iff_ne.mpr c23
        have c23b1 : (t190 != a0) = true := bne_iff_ne.mpr c23
        (first | rw [c23b0] | (simp only [i64_w, i32_w]; rw [c23b0]) | skip)
        have H' := Aside0.mk H
        clear H
        go_wp2
        go_meet
        case rel => exact ⟨_, (true), (by first | rfl | (simp; done) | (simp [*]; done)), H', ⟨by first | omega | exact Nat.le_refl _⟩, ⟨by repeat (first | (with_reducible first | exact HB.out | apply below_alloc | apply pw_below_drewN | apply below_drew1) | exact HB.out)⟩⟩
    case rest =>
      clear HC13
      try clear c1
      try clear c2
      try clear p2
      try clear c3
      try clear c6
      try clear p6
      try clear c8
      try clear c16
      try clear c18
      try clear c23
      try clear c23b0
      try clear c23b1
      try clear c24
      try clear c24b0
      try clear c24b1
      try clear c25
      try clear c25b0
      try clear c25b1
      try clear c26
      try clear c26b0
      try clear c26b1
      try clear c27
      try clear c27b0
      try clear c27b1
      obtain ⟨kq, x71_12, rfl, HA, HJ12, HB⟩ := hcut
      cases kq with
      | zero => exact absurd HA.out (by simp [stoalaw02_VintBack.j0])
      | succ kj12 =>
        have H := HA.out
        clear HA
        simp only [stoalaw02_VintBack.j0] at H
        by_cases c28 : x71_12 = true
        · subst c28
          have H1 : (some false) = some r := by rw [if_pos rfl] at H; exact H
          clear H
          have H := H1
          clear H1
          obtain rfl := Option.some.inj H
          go_wp2
          go_ret
          exact ⟨by first | rfl | (simp [errW_none, errW_some] <;> rfl) | (simp [*, errW_none, errW_some] <;> rfl), by repeat (first | (with_reducible first | exact HB.out | apply below_alloc | apply pw_below_drewN | apply below_drew1) | exact HB.out)⟩
        · replace c28 := Bool.eq_false_iff.mpr c28
          subst c28
          have H1 : (if a1 ≤ a0 then ((vint_Size.f kj12 a1).bind fun t199 => ((vint_Size.f kj12 a0).bind fun t200 => (if t199 ≤ t200 then (some true) else (if a1 > a0 then ((vint_Size.f kj12 a1).bind fun t201 => ((vint_Size.f kj12 a0).bind fun t202 => (some (decide (t201 ≥ t202))))) else (some false))))) else (if a1 > a0 then ((vint_Size.f kj12 a1).bind fun t203 => ((vint_Size.f kj12 a0).bind fun t204 => (some (decide (t203 ≥ t204))))) else (some false))) = some r := by rw [if_neg (show ¬ (false = true) by decide)] at H; exact H
          clear H
          have H := H1
          clear H1
          by_cases c29 : a1 ≤ a0
          · rw [if_pos c29] at H
            have c29b0 : decide (a1 ≤ a0) = true := decide_eq_true c29
            clear c29
            replace H := Option.bind_eq_some_iff.mp H
            obtain ⟨t199, A300, H⟩ := H
            replace H : ((vint_Size.f kj12 a0).bind fun t200 => (if t199 ≤ t200 then (some true) else (if a1 > a0 then ((vint_Size.f kj12 a1).bind fun t201 => ((vint_Size.f kj12 a0).bind fun t202 => (some (decide (t201 ≥ t202))))) else (some false)))) = some r := H
            have A30 := Aside0.mk A300
            clear A300
            replace H := Option.bind_eq_some_iff.mp H
            obtain ⟨t200, A310, H⟩ := H
            replace H : (if t199 ≤ t200 then (some true) else (if a1 > a0 then ((vint_Size.f kj12 a1).bind fun t201 => ((vint_Size.f kj12 a0).bind fun t202 => (some (decide (t201 ≥ t202))))) else (some false))) = some r := H
            have A31 := Aside0.mk A310
            clear A310
            by_cases c32 : t199 ≤ t200
            · rw [if_pos c32] at H
              have c32b0 : decide (t199 ≤ t200) = true := decide_eq_true c32
              clear c32
              obtain rfl := Option.some.inj H
              go_wp2_with (first | (go_at_call 15; (with_reducible refine (vint_Size.calls kj12 a1 t199 _ A30.out).mono ?_); rintro e w' ⟨rfl, ⟨nd, rfl⟩⟩) | (go_at_call 15; (with_reducible refine (vint_Size.calls kj12 a0 t200 _ A31.out).mono ?_); rintro e w' ⟨rfl, ⟨nd, rfl⟩⟩))
              go_ret
              exact ⟨by first | rfl | (simp [errW_none, errW_some] <;> rfl) | (simp [*, errW_none, errW_some] <;> rfl), by repeat (first | (with_reducible first | exact HB.out | apply below_alloc | apply pw_below_drewN | apply below_drew1) | exact HB.out)⟩
            · rw [if_neg c32] at H
              have c32b0 : decide (t199 ≤ t200) = false := decide_eq_false c32
              clear c32
              by_cases c33 : a1 > a0
              · rw [if_pos c33] at H
                have c33b0 : decide (a0 < a1) = true := decide_eq_true c33
                clear c33
                replace H := Option.bind_eq_some_iff.mp H
                obtain ⟨t201, A340, H⟩ := H
                replace H : ((vint_Size.f kj12 a0).bind fun t202 => (some (decide (t201 ≥ t202)))) = some r := H
                have A34 := Aside0.mk A340
                have EA34 := Option.some.inj (A340.symm.trans A30.out)
                clear A340
                replace H := Option.bind_eq_some_iff.mp H
                obtain ⟨t202, A350, H⟩ := H
                replace H : (some (decide (t201 ≥ t202))) = some r := H
                have A35 := Aside0.mk A350
                have EA35 := Option.some.inj (A350.symm.trans A31.out)
                clear A350
                obtain rfl := Option.some.inj H
                go_wp2_with (first | (go_at_call 15; (with_reducible refine (vint_Size.calls kj12 a1 t199 _ A30.out).mono ?_); rintro e w' ⟨rfl, ⟨nd, rfl⟩⟩) | (go_at_call 15; (with_reducible refine (vint_Size.calls kj12 a0 t200 _ A31.out).mono ?_); rintro e w' ⟨rfl, ⟨nd, rfl⟩⟩) | (go_at_call 15; (with_reducible refine (vint_Size.calls kj12 a1 t201 _ A34.out).mono ?_); rintro e w' ⟨rfl, ⟨nd, rfl⟩⟩) | (go_at_call 15; (with_reducible refine (vint_Size.calls kj12 a0 t202 _ A35.out).mono ?_); rintro e w' ⟨rfl, ⟨nd, rfl⟩⟩))
                go_ret
                exact ⟨by first | rfl | (simp [errW_none, errW_some] <;> rfl) | (simp [*, errW_none, errW_some] <;> rfl), by repeat (first | (with_reducible first | exact HB.out | apply below_alloc | apply pw_below_drewN | apply below_drew1) | exact HB.out)⟩
              · rw [if_neg c33] at H
                have c33b0 : decide (a0 < a1) = false := decide_eq_false c33
                clear c33
                obtain rfl := Option.some.inj H
                go_wp2_with (first | (go_at_call 15; (with_reducible refine (vint_Size.calls kj12 a1 t199 _ A30.out).mono ?_); rintro e w' ⟨rfl, ⟨nd, rfl⟩⟩) | (go_at_call 15; (with_reducible refine (vint_Size.calls kj12 a0 t200 _ A31.out).mono ?_); rintro e w' ⟨rfl, ⟨nd, rfl⟩⟩))
                go_ret
                exact ⟨by first | rfl | (simp [errW_none, errW_some] <;> rfl) | (simp [*, errW_none, errW_some] <;> rfl), by repeat (first | (with_reducible first | exact HB.out | apply below_alloc | apply pw_below_drewN | apply below_drew1) | exact HB.out)⟩
          · rw [if_neg c29] at H
            have c29b0 : decide (a1 ≤ a0) = false := decide_eq_false c29
            clear c29
            by_cases c36 : a1 > a0
            · rw [if_pos c36] at H
              have c36b0 : decide (a0 < a1) = true := decide_eq_true c36
              clear c36
              replace H := Option.bind_eq_some_iff.mp H
              obtain ⟨t203, A370, H⟩ := H
              replace H : ((vint_Size.f kj12 a0).bind fun t204 => (some (decide (t203 ≥ t204)))) = some r := H
              have A37 := Aside0.mk A370
              clear A370
              replace H := Option.bind_eq_some_iff.mp H
              obtain ⟨t204, A380, H⟩ := H
              replace H : (some (decide (t203 ≥ t204))) = some r := H
              have A38 := Aside0.mk A380
              clear A380
              obtain rfl := Option.some.inj H
              go_wp2_with (first | (go_at_call 15; (with_reducible refine (vint_Size.calls kj12 a1 t203 _ A37.out).mono ?_); rintro e w' ⟨rfl, ⟨nd, rfl⟩⟩) | (go_at_call 15; (with_reducible refine (vint_Size.calls kj12 a0 t204 _ A38.out).mono ?_); rintro e w' ⟨rfl, ⟨nd, rfl⟩⟩))
              go_ret
              exact ⟨by first | rfl | (simp [errW_none, errW_some] <;> rfl) | (simp [*, errW_none, errW_some] <;> rfl), by repeat (first | (with_reducible first | exact HB.out | apply below_alloc | apply pw_below_drewN | apply below_drew1) | exact HB.out)⟩
            · rw [if_neg c36] at H
              have c36b0 : decide (a0 < a1) = false := decide_eq_false c36
              clear c36
              obtain rfl := Option.some.inj H
              go_wp2
              go_ret
              exact ⟨by first | rfl | (simp [errW_none, errW_some] <;> rfl) | (simp [*, errW_none, errW_some] <;> rfl), by repeat (first | (with_reducible first | exact HB.out | apply below_alloc | apply pw_below_drewN | apply below_drew1) | exact HB.out)⟩
  · replace c6 := Bool.eq_false_iff.mpr c6
    subst c6
    have H1 : (some false) = some r := by rw [if_neg (show ¬ (false = true) by decide)] at H; exact H
    clear H
    have H := H1
    clear H1
    obtain rfl := Option.some.inj H
    go_enter Try.func6, Try.ntmps6
    go_wp2_with (first | ((with_reducible refine gate_callee (f := 8) rfl ?_); refine goesL_ (some 16) rfl rfl Try.func8 (by kernel_rfl) rfl #[] rfl (by (try simp only [List.map_toArray, List.map_cons, List.map_nil]); first | done | rfl | (simp only [List.length_drop, List.length_take]; rfl)) ?_; (with_reducible refine (stoalaw02_alive.calls k  false _ A5.out).mono ?_); rintro e w39 ⟨rfl, hb⟩; refine ⟨_, rfl, ?_⟩; have n0_ := Aside0.mk (below_step (by repeat (first | (with_reducible first | exact HB.out | apply below_alloc | apply pw_below_drewN | apply below_drew1) | exact HB.out)) hb); clear HB; have HB := n0_; clear n0_; (try clear hb); (try clear hb2); (try clear hk); (try clear hi)))
    go_ret
    exact ⟨by first | rfl | (simp [errW_none, errW_some] <;> rfl) | (simp [*, errW_none, errW_some] <;> rfl), by repeat (first | (with_reducible first | exact HB.out | apply below_alloc | apply pw_below_drewN | apply below_drew1) | exact HB.out)⟩

/-- THE ONE PURE STATEMENT of stoalaw02_VintBack: yours. -/
def stoalaw02_VintBack.Pure : Prop := ∀ (a0 : Int) (a1 : Int) (l2 : List Int) (l3 : List Int), (Lit.int .u64 a0).wf = true → (Lit.int .u64 a1).wf = true → l2.length ≤ maxLen → l2.length * 1 ≤ 140737488351232 → (∀ x ∈ l2, (Lit.int .u8 x).wf = true) → l3.length ≤ maxLen → l3.length * 1 ≤ 140737488351232 → (∀ x ∈ l3, (Lit.int .u8 x).wf = true) → ∃ k, stoalaw02_VintBack.f k a0 a1 l2 l3 = some true
theorem stoalaw02_VintBack.walk (P : stoalaw02_VintBack.Pure) (a0 : Int) (a1 : Int) (a2 : Option Addr) (len2 cap2 : Nat) (z2 : List Int) (a3 : Option Addr) (len3 cap3 : Nat) (z3 : List Int) (w : World) (w0 : (Lit.int .u64 a0).wf = true) (w1 : (Lit.int .u64 a1).wf = true) (w2 : (a2 = none ∧ len2 = 0 ∧ cap2 = 0 ∧ z2 = []) ∨ ∃ x, a2 = some x ∧ len2 ≤ cap2 ∧ cap2 ≤ maxLen ∧ z2.length = cap2 ∧ (∀ i, i < z2.length → w.cell? (x.add i) = some (.int .u8 (z2.getD i 0))) ∧ ∀ n ∈ z2, (Lit.int .u8 n).wf = true) (y2 : len2 * 1 ≤ 140737488351232) (w3 : (a3 = none ∧ len3 = 0 ∧ cap3 = 0 ∧ z3 = []) ∨ ∃ x, a3 = some x ∧ len3 ≤ cap3 ∧ cap3 ≤ maxLen ∧ z3.length = cap3 ∧ (∀ i, i < z3.length → w.cell? (x.add i) = some (.int .u8 (z3.getD i 0))) ∧ ∀ n ∈ z3, (Lit.int .u8 n).wf = true) (y3 : len3 * 1 ≤ 140737488351232) :
    Calls Try.prog 6 #[.int .u64 a0, .int .u64 a1, .slice a2 len2 cap2, .slice a3 len3 cap3] w fun e w' => e = .returned (.bool true) ∧ Below w.heap.size w w' := by
  obtain ⟨l2, rfl, hr2, hm2, hw2, hc2⟩ := ReadsInt.ofRowC w2
  obtain ⟨l3, rfl, hr3, hm3, hw3, hc3⟩ := ReadsInt.ofRowC w3
  obtain ⟨k, h⟩ := P a0 a1 l2 l3 w0 w1 hm2 y2 hw2 hm3 y3 hw3
  refine (stoalaw02_VintBack.calls k a0 a1 _ _ l2 _ _ l3 true w (Kd.C_of_reads (d := (0 : Int)) (h1 := fun _ => rfl) hr2) hc2 (Kd.C_of_reads (d := (0 : Int)) (h1 := fun _ => rfl) hr3) hc3 h).mono ?_
  rintro e w' ⟨rfl, hd⟩
  exact ⟨rfl, hd⟩

end Go.Proofs.Ytlfjelfafcaepaa.PVintBack

-- written by this session's own printing program (myprint.sh)
import Derived.Test.YtlfjelfafcaepaaPVintListsx0
import Derived.Test.YtlfjelfafcaepaaPVintListsx2
import Derived.Test.YtlfjelfafcaepaaPVintListsx3
namespace Go.Proofs.Ytlfjelfafcaepaa.PVintLists
open Go.RowKit Go.Proofs.YtlfjelfafcaepaaW.PrintWords Go.Proofs.YtlfjelfafcaepaaW.PrintLast Go.Proofs.YtlfjelfafcaepaaW.PrintMore
attribute [local go_sem] max2_int min2_int max_two min_two max_three min_three max_four min_four   -- for this text's walks alone
set_option linter.unusedVariables false
set_option linter.unusedSimpArgs false

/-! ### stoaref02_GetList: function 22 -/
mutual
def stoaref02_GetList.j0 : Nat → List Int → Int → Int → Int → Option (List Int × Int × Int)
  | 0, _, _, _, _ => none
  | k + 1, x0, x2, x9, x10 => if x9 > (IntKind.u64.wrap (x2)) then (some (([] : List Int), 0, 4)) else (stoaref02_GetList.l0 k x0 x9 x10 (([] : List Int)) 0)
def stoaref02_GetList.l0 : Nat → List Int → Int → Int → List Int → Int → Option (List Int × Int × Int)
  | 0, _, _, _, _, _ => none
  | k + 1, x0, x9, x10, x12, x13 => if x13 < x9 then ((stoaref02_Get.f k x0 x10).bind fun bt187 => (if bt187.2.2 = 0 then (if x12.length < 17592186044416 then (stoaref02_GetList.l0 k x0 x9 bt187.2.1 (x12 ++ [bt187.1]) (IntKind.u64.wrap (x13 + 1))) else (none)) else (some (([] : List Int), 0, bt187.2.2)))) else (some (x12, x10, 0))
end
def stoaref02_GetList.f (k : Nat) (l0 : List Int) (a1 : Int) (a2 : Int) : Option (List Int × Int × Int) := (stoaref02_Get.f k l0 a1).bind fun bt181 => (if bt181.2.2 = 0 then (if a2 < 0 then (stoaref02_GetList.j0 k l0 0 bt181.1 bt181.2.1) else (stoaref02_GetList.j0 k l0 a2 bt181.1 bt181.2.1)) else (some (([] : List Int), 0, bt181.2.2)))
theorem stoaref02_GetList.mono_l : ∀ k, (∀ y0 y1 y2 y3, LeO (stoaref02_GetList.j0 k y0 y1 y2 y3) (stoaref02_GetList.j0 (k + 1) y0 y1 y2 y3)) ∧ (∀ y0 y1 y2 y3 y4, LeO (stoaref02_GetList.l0 k y0 y1 y2 y3 y4) (stoaref02_GetList.l0 (k + 1) y0 y1 y2 y3 y4))
  | 0 => ⟨fun _ _ _ _ r h => by simp [stoaref02_GetList.j0] at h, fun _ _ _ _ _ r h => by simp [stoaref02_GetList.l0] at h⟩
  | k + 1 => by
    obtain ⟨ih0, ih1⟩ := stoaref02_GetList.mono_l k
    refine ⟨?_, ?_⟩
    · intro y0 y1 y2 y3
      unfold stoaref02_GetList.j0
      repeat' first
      | (with_reducible exact ih0 _ _ _ _)
      | (with_reducible exact ih1 _ _ _ _ _)
      | (with_reducible exact stoaref02_Get.mono _ _ _)
      | (with_reducible exact LeO.refl _)
      | (with_reducible exact LeO.none _)
      | (with_reducible refine LeO.ite ?_ ?_)
      | (with_reducible refine LeO.bind ?_ (fun _ => ?_))
      | exact ih0 _ _ _ _
      | exact ih1 _ _ _ _ _
      | exact stoaref02_Get.mono _ _ _
      | exact LeO.none _
      | refine LeO.ite ?_ ?_
      | refine LeO.bind ?_ (fun _ => ?_)
    · intro y0 y1 y2 y3 y4
      unfold stoaref02_GetList.l0
      repeat' first
      | (with_reducible exact ih0 _ _ _ _)
      | (with_reducible exact ih1 _ _ _ _ _)
      | (with_reducible exact stoaref02_Get.mono _ _ _)
      | (with_reducible exact LeO.refl _)
      | (with_reducible exact LeO.none _)
      | (with_reducible refine LeO.ite ?_ ?_)
      | (with_reducible refine LeO.bind ?_ (fun _ => ?_))
      | exact ih0 _ _ _ _
      | exact ih1 _ _ _ _ _
      | exact stoaref02_Get.mono _ _ _
      | exact LeO.none _
      | refine LeO.ite ?_ ?_
      | refine LeO.bind ?_ (fun _ => ?_)
theorem stoaref02_GetList.mono : ∀ a0 a1 a2 k, LeO (stoaref02_GetList.f k a0 a1 a2) (stoaref02_GetList.f (k + 1) a0 a1 a2) := by
  intro a0 a1 a2 k
  obtain ⟨ih0, ih1⟩ := stoaref02_GetList.mono_l k
  unfold stoaref02_GetList.f
  repeat' first
      | (with_reducible exact ih0 _ _ _ _)
      | (with_reducible exact ih1 _ _ _ _ _)
      | (with_reducible exact stoaref02_Get.mono _ _ _)
      | (with_reducible exact LeO.refl _)
      | (with_reducible exact LeO.none _)
      | (with_reducible refine LeO.ite ?_ ?_)
      | (with_reducible refine LeO.bind ?_ (fun _ => ?_))
      | exact ih0 _ _ _ _
      | exact ih1 _ _ _ _ _
      | exact stoaref02_Get.mono _ _ _
      | exact LeO.none _
      | refine LeO.ite ?_ ?_
      | refine LeO.bind ?_ (fun _ => ?_)
set_option maxHeartbeats 8000000 in
set_option maxRecDepth 100000 in
theorem stoaref02_GetList.calls (k : Nat) (A0 : Option Addr) (c0 : Nat) (l0 : List Int) (a1 : Int) (a2 : Int) (r1 : List Int) (r2 : Int) (r3 : Int) (w : World) (hr0 : Kd.C (Kd.int .u8) w A0 l0.length l0) (hc0 : l0.length ≤ c0) (h : stoaref02_GetList.f k l0 a1 a2 = some (r1, r2, r3)) :
    Calls Try.prog 22 #[.slice A0 l0.length c0, .int .i64 a1, .int .i64 a2] w fun e w' => ∃ v0_ : Value, e = .returned (.tuple #[v0_, .int .i64 r2, .int .i64 r3]) ∧ Kd.R (Kd.int .u64) 30 w' w.heap.size (fun _ => True) v0_ r1 ∧ Below w.heap.size w w' := by
  have HR0 := Aside0.mk hr0
  have HC0 := Aside0.mk hc0
  clear hr0 hc0
  have HB := Aside0.mk (Below.refl w.heap.size w)
  have H : ((stoaref02_Get.f k l0 a1).bind fun bt181 => (if bt181.2.2 = 0 then (if a2 < 0 then (stoaref02_GetList.j0 k l0 0 bt181.1 bt181.2.1) else (stoaref02_GetList.j0 k l0 a2 bt181.1 bt181.2.1)) else (some (([] : List Int), 0, bt181.2.2)))) = some (r1, r2, r3) := h
  clear h
  replace H := Option.bind_eq_some_iff.mp H
  obtain ⟨⟨t181, t182, t183⟩, A40, H⟩ := H
  replace H : (if t183 = 0 then (if a2 < 0 then (stoaref02_GetList.j0 k l0 0 t181 t182) else (stoaref02_GetList.j0 k l0 a2 t181 t182)) else (some (([] : List Int), 0, t183))) = some (r1, r2, r3) := H
  have A4 := Aside0.mk A40
  clear A40
  by_cases c5 : t183 = 0
  · rw [if_pos c5] at H
    have c5b0 : (t183 == 0) = true := beq_iff_eq.mpr c5
    have c5b1 : (t183 != 0) = false := bne_eq_false_iff_eq.mpr c5
    clear c5
    have HC6 := Aside0.mk H
    clear H
    go_enter Try.func22, Try.ntmps22
    go_upto_if 28 with (first | ((with_reducible refine gate_callee (f := 19) rfl ?_); refine goesL_ (some 20) rfl rfl Try.func19 (by kernel_rfl) rfl #[.slice A0 l0.length c0, .int .i64 a1] rfl (by (try simp only [List.map_toArray, List.map_cons, List.map_nil]); first | done | rfl | (simp only [List.length_drop, List.length_take]; rfl)) ?_; (with_reducible refine (stoaref02_Get.calls k _ _ l0 a1 t181 t182 t183 _ ?side1 ?side2 A4.out).mono ?_); (case side1 => repeat (first | exact HR0.out | (with_reducible refine Kd.C_alloc ?_ _) | (with_reducible refine Kd.C_drewN ?_ _) | (with_reducible refine Kd.C_drew ?_))); (case side2 => exact HC0.out); rintro e w' ⟨rfl, ⟨nd, rfl⟩⟩; refine ⟨_, rfl, ?_⟩))
    (try simp only [Act.put, List.setIfInBounds_toArray, List.set_cons_zero, List.set_cons_succ])
    go_cut [2] (fun v2 wc => ∃ (kq : Nat) (x2_5 : Int), v2 = .int .i64 x2_5 ∧ Aside0 (stoaref02_GetList.j0 kq l0 x2_5 t181 t182 = some (r1, r2, r3)) ∧ Aside0 (kq ≤ k) ∧ Aside0 (Below w.heap.size w wc))
    case first =>
      have H := HC6.out
      clear HC6
      by_cases c7 : a2 < 0
      · rw [if_pos c7] at H
        have c7b0 : decide (a2 < 0) = true := decide_eq_true c7
        clear c7
        (first | rw [c7b0] | (simp only [i64_w, i32_w]; rw [c7b0]) | skip)
        have H' := Aside0.mk H
        clear H
        go_wp2
        go_meet
        case rel => exact ⟨_, (0), (by first | rfl | (simp; done) | (simp [*]; done)), H', ⟨by first | omega | exact Nat.le_refl _⟩, ⟨by repeat (first | (with_reducible first | exact HB.out | apply below_alloc | apply pw_below_drewN | apply below_drew1) | exact HB.out)⟩⟩
      · rw [if_neg c7] at H
        have c7b0 : decide (a2 < 0) = false := decide_eq_false c7
        clear c7
        (first | rw [c7b0] | (simp only [i64_w, i32_w]; rw [c7b0]) | skip)
        have H' := Aside0.mk H
        clear H
        go_wp2
        go_meet
        case rel => exact ⟨_, (a2), (by first | rfl | (simp; done) | (simp [*]; done)), H', ⟨by first | omega | exact Nat.le_refl _⟩, ⟨by repeat (first | (with_reducible first | exact HB.out | apply below_alloc | apply pw_below_drewN | apply below_drew1) | exact HB.out)⟩⟩
    case rest =>
      clear HC6
      try clear c1
      try clear c2
      try clear p2
      try clear c5
      try clear c5b0
      try clear c5b1
      try clear c7
      try clear c7b0
      obtain ⟨kq, x2_5, rfl, HA, HJ5, HB⟩ := hcut
      cases kq with
      | zero => exact absurd HA.out (by simp [stoaref02_GetList.j0])
      | succ kj5 =>
        have H := HA.out
        clear HA
        simp only [stoaref02_GetList.j0] at H
        by_cases c8 : t181 > (IntKind.u64.wrap (x2_5))
        · rw [if_pos c8] at H
          have c8b0 : decide ((IntKind.u64.wrap (x2_5)) < t181) = true := decide_eq_true c8
          clear c8
          simp only [Option.some.injEq, Prod.mk.injEq] at H
          obtain ⟨rfl, rfl, rfl⟩ := H
          go_wp2
          go_ret3
          exact ⟨_, by first | rfl | (simp [errW_none, errW_some] <;> rfl) | (simp [*, errW_none, errW_some] <;> rfl), by first | exact Kd.R_nil _ _ _ _ _ | exact Kd.N_nil _ _ _ _ _ | exact Kd.V_nil _ _ _ _ _ | exact Kd.Q_nil _ _ _ _ _ | exact Kd.S_nil _ _ _ _ _, by repeat (first | (with_reducible first | exact HB.out | apply below_alloc | apply pw_below_drewN | apply below_drew1) | exact HB.out)⟩
        · rw [if_neg c8] at H
          have c8b0 : decide ((IntKind.u64.wrap (x2_5)) < t181) = false := decide_eq_false c8
          clear c8
          obtain ⟨y184, hy184⟩ : ∃ y_ : List Int, y_ = (([] : List Int)) := ⟨_, rfl⟩
          replace H : (stoaref02_GetList.l0 kj5 l0 t181 t182 y184 0) = some (r1, r2, r3) := by first | (rw [hy184]; with_reducible exact H) | (have H2_ := (Option.bind_some _ _).symm.trans H; rw [hy184]; with_reducible exact H2_) | (have H2_ := (Option.bind_some _ _).symm.trans H; with_reducible exact H2_) | with_reducible exact H | (rw [hy184]; exact H) | exact H
          have Ny184 := Aside0.mk hy184
          clear hy184
          have H' := Aside0.mk H
          clear H
          go_wp2_with (first | ((with_reducible refine gate_dst (N := 33) rfl ?_); refine Kd.R_lit (Kd.int .u64) _ 30 ?hg (N := 33) ?hd (xs := ([] : List Int)) (inner := []) (ok := fun _ => True) (okp := fun _ => True) ?hr ?hp (fun _ hk => hk) trivial (Below.refl _ _) (Nat.le_refl _) (by simp) ?_; (case hd => rfl); (case hg => rfl); (case hr => first | (go_simp; done) | (go_simp; rfl)); (case hp => exact (Reps.none _ _)); intro v185 w9 ho10 hb hg_ hnew_; clear hg_ hnew_; (first | rw [← Ny184.out] at ho10 | (simp only [Int.reduceToNat] at ho10; rw [← Ny184.out] at ho10)); have n0_ := Aside0.mk (Kd.R_lower ho10 (below_size (by repeat (first | (with_reducible first | exact HB.out | apply below_alloc | apply pw_below_drewN | apply below_drew1) | exact HB.out)))); have n1_ := Aside0.mk (below_step (by repeat (first | (with_reducible first | exact HB.out | apply below_alloc | apply pw_below_drewN | apply below_drew1) | exact HB.out)) hb); clear HB; have HO186 := n0_; have HB := n1_; clear n0_ n1_; clear hb ho10))
          go_loopg [10, 12, 13] kj5 (fun kq v10 v12 v13 w' => ∃ (x10_2 : Int) (x12_2 : List Int) (x13_2 : Int), v10 = .int .i64 x10_2 ∧ v13 = .int .u64 x13_2 ∧ Aside0 (stoaref02_GetList.l0 kq l0 t181 x10_2 x12_2 x13_2 = some (r1, r2, r3)) ∧ Aside0 (kq ≤ kj5) ∧ Aside0 (Kd.R (Kd.int .u64) 30 w' w.heap.size (fun _ => True) v12 x12_2) ∧ Aside0 (Below w.heap.size w w'))
          case atStart => exact ⟨(t182), (y184), (0), (by first | rfl | (simp; done) | (simp [*]; done)), (by first | rfl | (simp; done) | (simp [*]; done)), H', ⟨Nat.le_refl _⟩, ⟨by (with_reducible repeat (first | apply Kd.R_alloc | apply Kd.R_drewN | apply Kd.R_drew)); exact HO186.out⟩, ⟨by repeat (first | (with_reducible first | exact HB.out | apply below_alloc | apply pw_below_drewN | apply below_drew1) | exact HB.out)⟩⟩
          case round =>
            clear H'
            try clear c1
            try clear c2
            try clear p2
            try clear c5
            try clear c5b0
            try clear c5b1
            try clear c7
            try clear c7b0
            try clear c8
            try clear c8b0
            try clear p2
            obtain ⟨x10_2, x12_2, x13_2, rfl, rfl, HA, HK2, HO_12, HB⟩ := hrel
            cases gk with
            | zero => exact absurd HA.out (by simp [stoaref02_GetList.l0])
            | succ k2 =>
              have H := HA.out
              clear HA
              simp only [stoaref02_GetList.l0] at H
              by_cases c11 : x13_2 < t181
              · rw [if_pos c11] at H
                have c11b0 : decide (x13_2 < t181) = true := decide_eq_true c11
                clear c11
                replace H := Option.bind_eq_some_iff.mp H
                obtain ⟨⟨t187, t188, t189⟩, A120, H⟩ := H
                replace H : (if t189 = 0 then (if x12_2.length < 17592186044416 then (stoaref02_GetList.l0 k2 l0 t181 t188 (x12_2 ++ [t187]) (IntKind.u64.wrap (x13_2 + 1))) else (none)) else (some (([] : List Int), 0, t189))) = some (r1, r2, r3) := H
                have A12 := Aside0.mk A120
                clear A120
                by_cases c13 : t189 = 0
                · rw [if_pos c13] at H
                  have c13b0 : (t189 == 0) = true := beq_iff_eq.mpr c13
                  have c13b1 : (t189 != 0) = false := bne_eq_false_iff_eq.mpr c13
                  clear c13
                  by_cases c14 : x12_2.length < 17592186044416
                  · rw [if_pos c14] at H
                    have LMc14 := Aside0.mk c14
                    clear c14
                    obtain ⟨y190, hy190⟩ : ∃ y_ : List Int, y_ = (x12_2 ++ [t187]) := ⟨_, rfl⟩
                    replace H : (stoaref02_GetList.l0 k2 l0 t181 t188 y190 (IntKind.u64.wrap (x13_2 + 1))) = some (r1, r2, r3) := by first | (rw [hy190]; with_reducible exact H) | (have H2_ := (Option.bind_some _ _).symm.trans H; rw [hy190]; with_reducible exact H2_) | (have H2_ := (Option.bind_some _ _).symm.trans H; with_reducible exact H2_) | with_reducible exact H | (rw [hy190]; exact H) | exact H
                    have Ny190 := Aside0.mk hy190
                    clear hy190
                    have H' := Aside0.mk H
                    clear H
                    go_wp2_with (first | ((with_reducible refine gate_callee (f := 19) rfl ?_); refine goesL_ (some 42) rfl rfl Try.func19 (by kernel_rfl) rfl #[.slice A0 l0.length c0, .int .i64 x10_2] rfl (by (try simp only [List.map_toArray, List.map_cons, List.map_nil]); first | done | rfl | (simp only [List.length_drop, List.length_take]; rfl)) ?_; (with_reducible refine (stoaref02_Get.calls k2 _ _ l0 x10_2 t187 t188 t189 _ ?side1 ?side2 A12.out).mono ?_); (case side1 => repeat (first | exact (Kd.C_below HR0.out HB.out) | (with_reducible refine Kd.C_alloc ?_ _) | (with_reducible refine Kd.C_drewN ?_ _) | (with_reducible refine Kd.C_drew ?_))); (case side2 => exact HC0.out); rintro e w' ⟨rfl, ⟨nd, rfl⟩⟩; refine ⟨_, rfl, ?_⟩) | ((with_reducible refine gate_builtin (b := .append) (xs := #[.tmp 49, .tmp 51]) rfl ?_); at_builtin; refine Kd.R_append (Kd.int .u64) (w0 := w) w.heap.size rfl (.tmp 49) (.tmp 51) 22 30 (.int .u64 0) 8 rfl Try.underlying22 info30 rfl (by decide) (by omega) u12 x12_2 t187 [.int .u64 t187] (fun _ => True) (fun _ => False) rfl rfl ?aP (fun _ hk => hk.elim) ?aF ?aO ?aB ?aS ?aL ?_; (case aP => exact rfl); (case aB => exact (by repeat (first | (with_reducible first | exact HB.out | apply below_alloc | apply pw_below_drewN | apply below_drew1) | exact HB.out))); (case aF => exact (fun _ _ => trivial)); (case aO => exact (by (with_reducible repeat (first | apply Kd.R_alloc | apply Kd.R_drewN | apply Kd.R_drew)); exact HO_12.out)); (case aS => exact (below_size (by repeat (first | (with_reducible first | exact HB.out | apply below_alloc | apply pw_below_drewN | apply below_drew1) | exact HB.out)))); (case aL => have := LMc14.out; omega); intro v191 w15 ho hb hg hat; rw [← Ny190.out] at ho; have n0_ := Aside0.mk (hb); have n1_ := Aside0.mk (ho); clear HB; clear HO_12; have HB := n0_; have HO192 := n1_; clear n0_ n1_; clear ho hb hg hat))
                    go_roundg k2
                    case measure => have := HJ5.out; have := HK2.out; omega
                    case rel => exact ⟨(t188), (y190), (IntKind.u64.wrap (x13_2 + 1)), (by first | rfl | (simp; done) | (simp [*]; done)), (by first | rfl | (simp; done) | (simp [*]; done)), H', ⟨by have := HJ5.out; have := HK2.out; omega⟩, ⟨by (with_reducible repeat (first | apply Kd.R_alloc | apply Kd.R_drewN | apply Kd.R_drew)); exact HO192.out⟩, ⟨by repeat (first | (with_reducible first | exact HB.out | apply below_alloc | apply pw_below_drewN | apply below_drew1) | exact HB.out)⟩⟩
                  · rw [if_neg c14] at H
                    exact absurd H (by simp)
                · rw [if_neg c13] at H
                  have c13b0 : (t189 == 0) = false := beq_eq_false_iff_ne.mpr c13
                  have c13b1 : (t189 != 0) = true := bne_iff_ne.mpr c13
                  simp only [Option.some.injEq, Prod.mk.injEq] at H
                  obtain ⟨rfl, rfl, rfl⟩ := H
                  go_wp2_with (first | ((with_reducible refine gate_callee (f := 19) rfl ?_); refine goesL_ (some 42) rfl rfl Try.func19 (by kernel_rfl) rfl #[.slice A0 l0.length c0, .int .i64 x10_2] rfl (by (try simp only [List.map_toArray, List.map_cons, List.map_nil]); first | done | rfl | (simp only [List.length_drop, List.length_take]; rfl)) ?_; (with_reducible refine (stoaref02_Get.calls k2 _ _ l0 x10_2 t187 t188 t189 _ ?side1 ?side2 A12.out).mono ?_); (case side1 => repeat (first | exact (Kd.C_below HR0.out HB.out) | (with_reducible refine Kd.C_alloc ?_ _) | (with_reducible refine Kd.C_drewN ?_ _) | (with_reducible refine Kd.C_drew ?_))); (case side2 => exact HC0.out); rintro e w' ⟨rfl, ⟨nd, rfl⟩⟩; refine ⟨_, rfl, ?_⟩))
                  go_ret3
                  exact ⟨_, by first | rfl | (simp [errW_none, errW_some] <;> rfl) | (simp [*, errW_none, errW_some] <;> rfl), by first | exact Kd.R_nil _ _ _ _ _ | exact Kd.N_nil _ _ _ _ _ | exact Kd.V_nil _ _ _ _ _ | exact Kd.Q_nil _ _ _ _ _ | exact Kd.S_nil _ _ _ _ _, by repeat (first | (with_reducible first | exact HB.out | apply below_alloc | apply pw_below_drewN | apply below_drew1) | exact HB.out)⟩
              · rw [if_neg c11] at H
                have c11b0 : decide (x13_2 < t181) = false := decide_eq_false c11
                clear c11
                simp only [Option.some.injEq, Prod.mk.injEq] at H
                obtain ⟨rfl, rfl, rfl⟩ := H
                go_wp2
                go_ret3
                exact ⟨_, by first | rfl | (simp [errW_none, errW_some] <;> rfl) | (simp [*, errW_none, errW_some] <;> rfl), by (with_reducible repeat (first | apply Kd.R_alloc | apply Kd.R_drewN | apply Kd.R_drew)); exact HO_12.out, by repeat (first | (with_reducible first | exact HB.out | apply below_alloc | apply pw_below_drewN | apply below_drew1) | exact HB.out)⟩
  · rw [if_neg c5] at H
    have c5b0 : (t183 == 0) = false := beq_eq_false_iff_ne.mpr c5
    have c5b1 : (t183 != 0) = true := bne_iff_ne.mpr c5
    simp only [Option.some.injEq, Prod.mk.injEq] at H
    obtain ⟨rfl, rfl, rfl⟩ := H
    go_enter Try.func22, Try.ntmps22
    go_wp2_with (first | ((with_reducible refine gate_callee (f := 19) rfl ?_); refine goesL_ (some 20) rfl rfl Try.func19 (by kernel_rfl) rfl #[.slice A0 l0.length c0, .int .i64 a1] rfl (by (try simp only [List.map_toArray, List.map_cons, List.map_nil]); first | done | rfl | (simp only [List.length_drop, List.length_take]; rfl)) ?_; (with_reducible refine (stoaref02_Get.calls k _ _ l0 a1 t181 t182 t183 _ ?side1 ?side2 A4.out).mono ?_); (case side1 => repeat (first | exact HR0.out | (with_reducible refine Kd.C_alloc ?_ _) | (with_reducible refine Kd.C_drewN ?_ _) | (with_reducible refine Kd.C_drew ?_))); (case side2 => exact HC0.out); rintro e w' ⟨rfl, ⟨nd, rfl⟩⟩; refine ⟨_, rfl, ?_⟩))
    go_ret3
    exact ⟨_, by first | rfl | (simp [errW_none, errW_some] <;> rfl) | (simp [*, errW_none, errW_some] <;> rfl), by first | exact Kd.R_nil _ _ _ _ _ | exact Kd.N_nil _ _ _ _ _ | exact Kd.V_nil _ _ _ _ _ | exact Kd.Q_nil _ _ _ _ _ | exact Kd.S_nil _ _ _ _ _, by repeat (first | (with_reducible first | exact HB.out | apply below_alloc | apply pw_below_drewN | apply below_drew1) | exact HB.out)⟩

/-! ### stoalaw02_VintLists: function 5 -/
mutual
def stoalaw02_VintLists.j0 : Nat → List Int → List Int → List Int → List Int → List Int → Bool → Option (Bool)
  | 0, _, _, _, _, _, _ => none
  | k + 1, x0, x7, x8, x11, x14, x71 => if x71 = true then (some false) else (stoalaw02_VintLists.l0 k x0 x7 x8 x11 x14 (x8.length : Int) 0)
def stoalaw02_VintLists.l0 : Nat → List Int → List Int → List Int → List Int → List Int → Int → Int → Option (Bool)
  | 0, _, _, _, _, _, _, _ => none
  | k + 1, x0, x7, x8, x11, x14, x73, x74 => if x74 < x73 then (if 0 ≤ x74 then (if x74 < (x8.length : Int) then (stoalaw02_VintLists.l0 k x0 x7 (x8.set (x74 : Int).toNat (IntKind.u64.wrap ((rd x8 x74) + 1))) x11 x14 x73 (wrap64 (x74 + 1))) else (none)) else (none)) else ((stoaref01_SameNumbers.f k x11 x14).bind fun t224 => (if t224 = true then ((stoaref01_Intact.f k x7 x0).bind fun t225 => (some t225)) else (some false)))
end
def stoalaw02_VintLists.f (k : Nat) (l0 : List Int) (a1 : Int) (a2 : Int) : Option (Bool) := (stoalaw02_alive.f k).bind fun t193 => (if t193 = true then ((stoaref01_Wide.f k l0).bind fun t194 => (if 0 ≤ (l0.length : Int) then (if (l0.length : Int) ≤ (t194.length : Int) then ((vint_GetList.f k (t194.take ((l0.length : Int) : Int).toNat) a1 a2).bind fun bt201 => ((vint_GetList.f k (t194.take ((l0.length : Int) : Int).toNat) a1 a2).bind fun bt210 => ((stoaref02_GetList.f k l0 a1 a2).bind fun bt215 => (if bt201.2.1 = bt215.2.1 then (if bt201.2.2 = bt215.2.2 then ((stoaref01_SameNumbers.f k bt201.1 bt215.1).bind fun t220 => (if t220 = true then ((stoaref01_SameNumbers.f k bt210.1 bt215.1).bind fun t221 => (stoalaw02_VintLists.j0 k l0 t194 bt201.1 bt210.1 bt215.1 (!t221))) else (stoalaw02_VintLists.j0 k l0 t194 bt201.1 bt210.1 bt215.1 true))) else (stoalaw02_VintLists.j0 k l0 t194 bt201.1 bt210.1 bt215.1 true)) else (stoalaw02_VintLists.j0 k l0 t194 bt201.1 bt210.1 bt215.1 true))))) else (none)) else (none))) else (some false))
theorem stoalaw02_VintLists.mono_l : ∀ k, (∀ y0 y1 y2 y3 y4 y5, LeO (stoalaw02_VintLists.j0 k y0 y1 y2 y3 y4 y5) (stoalaw02_VintLists.j0 (k + 1) y0 y1 y2 y3 y4 y5)) ∧ (∀ y0 y1 y2 y3 y4 y5 y6, LeO (stoalaw02_VintLists.l0 k y0 y1 y2 y3 y4 y5 y6) (stoalaw02_VintLists.l0 (k + 1) y0 y1 y2 y3 y4 y5 y6))
  | 0 => ⟨fun _ _ _ _ _ _ r h => by simp [stoalaw02_VintLists.j0] at h, fun _ _ _ _ _ _ _ r h => by simp [stoalaw02_VintLists.l0] at h⟩
  | k + 1 => by
    obtain ⟨ih0, ih1⟩ := stoalaw02_VintLists.mono_l k
    refine ⟨?_, ?_⟩
    · intro y0 y1 y2 y3 y4 y5
      unfold stoalaw02_VintLists.j0
      repeat' first
      | (with_reducible exact ih0 _ _ _ _ _ _)
      | (with_reducible exact ih1 _ _ _ _ _ _ _)
      | (with_reducible exact stoalaw02_alive.mono _)
      | (with_reducible exact stoaref01_Intact.mono _ _ _)
      | (with_reducible exact stoaref01_SameNumbers.mono _ _ _)
      | (with_reducible exact stoaref01_Wide.mono _ _)
      | (with_reducible exact stoaref02_GetList.mono _ _ _ _)
      | (with_reducible exact vint_GetList.mono _ _ _ _)
      | (with_reducible exact LeO.refl _)
      | (with_reducible exact LeO.none _)
      | (with_reducible refine LeO.ite ?_ ?_)
      | (with_reducible refine LeO.bind ?_ (fun _ => ?_))
      | exact ih0 _ _ _ _ _ _
      | exact ih1 _ _ _ _ _ _ _
      | exact stoalaw02_alive.mono _
      | exact stoaref01_Intact.mono _ _ _
      | exact stoaref01_SameNumbers.mono _ _ _
      | exact stoaref01_Wide.mono _ _
      | exact stoaref02_GetList.mono _ _ _ _
      | exact vint_GetList.mono _ _ _ _
      | exact LeO.none _
      | refine LeO.ite ?_ ?_
      | refine LeO.bind ?_ (fun _ => ?_)
    · intro y0 y1 y2 y3 y4 y5 y6
      unfold stoalaw02_VintLists.l0
      repeat' first
      | (with_reducible exact ih0 _ _ _ _ _ _)
      | (with_reducible exact ih1 _ _ _ _ _ _ _)
      | (with_reducible exact stoalaw02_alive.mono _)
      | (with_reducible exact stoaref01_Intact.mono _ _ _)
      | (with_reducible exact stoaref01_SameNumbers.mono _ _ _)
      | (with_reducible exact stoaref01_Wide.mono _ _)
      | (with_reducible exact stoaref02_GetList.mono _ _ _ _)
      | (with_reducible exact vint_GetList.mono _ _ _ _)
      | (with_reducible exact LeO.refl _)
      | (with_reducible exact LeO.none _)
      | (with_reducible refine LeO.ite ?_ ?_)
      | (with_reducible refine LeO.bind ?_ (fun _ => ?_))
      | exact ih0 _ _ _ _ _ _
      | exact ih1 _ _ _ _ _ _ _
      | exact stoalaw02_alive.mono _
      | exact stoaref01_Intact.mono _ _ _
      | exact stoaref01_SameNumbers.mono _ _ _
      | exact stoaref01_Wide.mono _ _
      | exact stoaref02_GetList.mono _ _ _ _
      | exact vint_GetList.mono _ _ _ _
      | exact LeO.none _
      | refine LeO.ite ?_ ?_
      | refine LeO.bind ?_ (fun _ => ?_)
theorem stoalaw02_VintLists.mono : ∀ a0 a1 a2 k, LeO (stoalaw02_VintLists.f k a0 a1 a2) (stoalaw02_VintLists.f (k + 1) a0 a1 a2) := by
  intro a0 a1 a2 k
  obtain ⟨ih0, ih1⟩ := stoalaw02_VintLists.mono_l k
  unfold stoalaw02_VintLists.f
  repeat' first
      | (with_reducible exact ih0 _ _ _ _ _ _)
      | (with_reducible exact ih1 _ _ _ _ _ _ _)
      | (with_reducible exact stoalaw02_alive.mono _)
      | (with_reducible exact stoaref01_Intact.mono _ _ _)
      | (with_reducible exact stoaref01_SameNumbers.mono _ _ _)
      | (with_reducible exact stoaref01_Wide.mono _ _)
      | (with_reducible exact stoaref02_GetList.mono _ _ _ _)
      | (with_reducible exact vint_GetList.mono _ _ _ _)
      | (with_reducible exact LeO.refl _)
      | (with_reducible exact LeO.none _)
      | (with_reducible refine LeO.ite ?_ ?_)
      | (with_reducible refine LeO.bind ?_ (fun _ => ?_))
      | exact ih0 _ _ _ _ _ _
      | exact ih1 _ _ _ _ _ _ _
      | exact stoalaw02_alive.mono _
      | exact stoaref01_Intact.mono _ _ _
      | exact stoaref01_SameNumbers.mono _ _ _
      | exact stoaref01_Wide.mono _ _
      | exact stoaref02_GetList.mono _ _ _ _
      | exact vint_GetList.mono _ _ _ _
      | exact LeO.none _
      | refine LeO.ite ?_ ?_
      | refine LeO.bind ?_ (fun _ => ?_)
set_option maxHeartbeats 8000000 in
set_option maxRecDepth 100000 in
theorem stoalaw02_VintLists.calls (k : Nat) (A0 : Option Addr) (c0 : Nat) (l0 : List Int) (a1 : Int) (a2 : Int) (r : Bool) (w : World) (hr0 : Kd.C (Kd.int .u8) w A0 l0.length l0) (hc0 : l0.length ≤ c0) (h : stoalaw02_VintLists.f k l0 a1 a2 = some r) :
    Calls Try.prog 5 #[.slice A0 l0.length c0, .int .i64 a1, .int .i64 a2] w fun e w' => e = .returned (.bool r) ∧ Below w.heap.size w w' := by
  have HR0 := Aside0.mk hr0
  have HC0 := Aside0.mk hc0
  clear hr0 hc0
  have HB := Aside0.mk (Below.refl w.heap.size w)
  have H : ((stoalaw02_alive.f k).bind fun t193 => (if t193 = true then ((stoaref01_Wide.f k l0).bind fun t194 => (if 0 ≤ (l0.length : Int) then (if (l0.length : Int) ≤ (t194.length : Int) then ((vint_GetList.f k (t194.take ((l0.length : Int) : Int).toNat) a1 a2).bind fun bt201 => ((vint_GetList.f k (t194.take ((l0.length : Int) : Int).toNat) a1 a2).bind fun bt210 => ((stoaref02_GetList.f k l0 a1 a2).bind fun bt215 => (if bt201.2.1 = bt215.2.1 then (if bt201.2.2 = bt215.2.2 then ((stoaref01_SameNumbers.f k bt201.1 bt215.1).bind fun t220 => (if t220 = true then ((stoaref01_SameNumbers.f k bt210.1 bt215.1).bind fun t221 => (stoalaw02_VintLists.j0 k l0 t194 bt201.1 bt210.1 bt215.1 (!t221))) else (stoalaw02_VintLists.j0 k l0 t194 bt201.1 bt210.1 bt215.1 true))) else (stoalaw02_VintLists.j0 k l0 t194 bt201.1 bt210.1 bt215.1 true)) else (stoalaw02_VintLists.j0 k l0 t194 bt201.1 bt210.1 bt215.1 true))))) else (none)) else (none))) else (some false))) = some r := h
  clear h
  replace H := Option.bind_eq_some_iff.mp H
  obtain ⟨t193, A40, H⟩ := H
  replace H : (if t193 = true then ((stoaref01_Wide.f k l0).bind fun t194 => (if 0 ≤ (l0.length : Int) then (if (l0.length : Int) ≤ (t194.length : Int) then ((vint_GetList.f k (t194.take ((l0.length : Int) : Int).toNat) a1 a2).bind fun bt201 => ((vint_GetList.f k (t194.take ((l0.length : Int) : Int).toNat) a1 a2).bind fun bt210 => ((stoaref02_GetList.f k l0 a1 a2).bind fun bt215 => (if bt201.2.1 = bt215.2.1 then (if bt201.2.2 = bt215.2.2 then ((stoaref01_SameNumbers.f k bt201.1 bt215.1).bind fun t220 => (if t220 = true then ((stoaref01_SameNumbers.f k bt210.1 bt215.1).bind fun t221 => (stoalaw02_VintLists.j0 k l0 t194 bt201.1 bt210.1 bt215.1 (!t221))) else (stoalaw02_VintLists.j0 k l0 t194 bt201.1 bt210.1 bt215.1 true))) else (stoalaw02_VintLists.j0 k l0 t194 bt201.1 bt210.1 bt215.1 true)) else (stoalaw02_VintLists.j0 k l0 t194 bt201.1 bt210.1 bt215.1 true))))) else (none)) else (none))) else (some false)) = some r := H
  have A4 := Aside0.mk A40
  clear A40
  by_cases c5 : t193 = true
  · subst c5
    have H1 : ((stoaref01_Wide.f k l0).bind fun t194 => (if 0 ≤ (l0.length : Int) then (if (l0.length : Int) ≤ (t194.length : Int) then ((vint_GetList.f k (t194.take ((l0.length : Int) : Int).toNat) a1 a2).bind fun bt201 => ((vint_GetList.f k (t194.take ((l0.length : Int) : Int).toNat) a1 a2).bind fun bt210 => ((stoaref02_GetList.f k l0 a1 a2).bind fun bt215 => (if bt201.2.1 = bt215.2.1 then (if bt201.2.2 = bt215.2.2 then ((stoaref01_SameNumbers.f k bt201.1 bt215.1).bind fun t220 => (if t220 = true then ((stoaref01_SameNumbers.f k bt210.1 bt215.1).bind fun t221 => (stoalaw02_VintLists.j0 k l0 t194 bt201.1 bt210.1 bt215.1 (!t221))) else (stoalaw02_VintLists.j0 k l0 t194 bt201.1 bt210.1 bt215.1 true))) else (stoalaw02_VintLists.j0 k l0 t194 bt201.1 bt210.1 bt215.1 true)) else (stoalaw02_VintLists.j0 k l0 t194 bt201.1 bt210.1 bt215.1 true))))) else (none)) else (none))) = some r := by rw [if_pos rfl] at H; exact H
    clear H
    have H := H1
    clear H1
    replace H := Option.bind_eq_some_iff.mp H
    obtain ⟨t194, A60, H⟩ := H
    replace H : (if 0 ≤ (l0.length : Int) then (if (l0.length : Int) ≤ (t194.length : Int) then ((vint_GetList.f k (t194.take ((l0.length : Int) : Int).toNat) a1 a2).bind fun bt201 => ((vint_GetList.f k (t194.take ((l0.length : Int) : Int).toNat) a1 a2).bind fun bt210 => ((stoaref02_GetList.f k l0 a1 a2).bind fun bt215 => (if bt201.2.1 = bt215.2.1 then (if bt201.2.2 = bt215.2.2 then ((stoaref01_SameNumbers.f k bt201.1 bt215.1).bind fun t220 => (if t220 = true then ((stoaref01_SameNumbers.f k bt210.1 bt215.1).bind fun t221 => (stoalaw02_VintLists.j0 k l0 t194 bt201.1 bt210.1 bt215.1 (!t221))) else (stoalaw02_VintLists.j0 k l0 t194 bt201.1 bt210.1 bt215.1 true))) else (stoalaw02_VintLists.j0 k l0 t194 bt201.1 bt210.1 bt215.1 true)) else (stoalaw02_VintLists.j0 k l0 t194 bt201.1 bt210.1 bt215.1 true))))) else (none)) else (none)) = some r := H
    have A6 := Aside0.mk A60
    clear A60
    by_cases c7 : 0 ≤ (l0.length : Int)
    · rw [if_pos c7] at H
      have c7b0 := eq_true c7
      have c7b1 : decide (0 ≤ (l0.length : Int)) = true := decide_eq_true c7
      clear c7
      by_cases c8 : (l0.length : Int) ≤ (t194.length : Int)
      · rw [if_pos c8] at H
        have c8b0 := eq_true c8
        have c8b1 : decide ((l0.length : Int) ≤ (t194.length : Int)) = true := decide_eq_true c8
        clear c8
        obtain ⟨y197, hy197⟩ : ∃ y_ : List Int, y_ = (t194.take ((l0.length : Int) : Int).toNat) := ⟨_, rfl⟩
        replace H : ((vint_GetList.f k y197 a1 a2).bind fun bt201 => ((vint_GetList.f k (t194.take ((l0.length : Int) : Int).toNat) a1 a2).bind fun bt210 => ((stoaref02_GetList.f k l0 a1 a2).bind fun bt215 => (if bt201.2.1 = bt215.2.1 then (if bt201.2.2 = bt215.2.2 then ((stoaref01_SameNumbers.f k bt201.1 bt215.1).bind fun t220 => (if t220 = true then ((stoaref01_SameNumbers.f k bt210.1 bt215.1).bind fun t221 => (stoalaw02_VintLists.j0 k l0 t194 bt201.1 bt210.1 bt215.1 (!t221))) else (stoalaw02_VintLists.j0 k l0 t194 bt201.1 bt210.1 bt215.1 true))) else (stoalaw02_VintLists.j0 k l0 t194 bt201.1 bt210.1 bt215.1 true)) else (stoalaw02_VintLists.j0 k l0 t194 bt201.1 bt210.1 bt215.1 true))))) = some r := by first | (rw [hy197]; with_reducible exact H) | (have H2_ := (Option.bind_some _ _).symm.trans H; rw [hy197]; with_reducible exact H2_) | (have H2_ := (Option.bind_some _ _).symm.trans H; with_reducible exact H2_) | with_reducible exact H | (rw [hy197]; exact H) | exact H
        have Ny197 := Aside0.mk hy197
        clear hy197
        replace H := Option.bind_eq_some_iff.mp H
        obtain ⟨⟨t201, t202, t203⟩, A90, H⟩ := H
        replace H : ((vint_GetList.f k (t194.take ((l0.length : Int) : Int).toNat) a1 a2).bind fun bt210 => ((stoaref02_GetList.f k l0 a1 a2).bind fun bt215 => (if t202 = bt215.2.1 then (if t203 = bt215.2.2 then ((stoaref01_SameNumbers.f k t201 bt215.1).bind fun t220 => (if t220 = true then ((stoaref01_SameNumbers.f k bt210.1 bt215.1).bind fun t221 => (stoalaw02_VintLists.j0 k l0 t194 t201 bt210.1 bt215.1 (!t221))) else (stoalaw02_VintLists.j0 k l0 t194 t201 bt210.1 bt215.1 true))) else (stoalaw02_VintLists.j0 k l0 t194 t201 bt210.1 bt215.1 true)) else (stoalaw02_VintLists.j0 k l0 t194 t201 bt210.1 bt215.1 true)))) = some r := H
        have A9 := Aside0.mk A90
        clear A90
        have c10b0 := eq_true (of_decide_eq_true (by first | (with_reducible assumption) | assumption) : 0 ≤ (l0.length : Int))
        have c11b0 := eq_true (of_decide_eq_true (by first | (with_reducible assumption) | assumption) : (l0.length : Int) ≤ (t194.length : Int))
        replace H : ((vint_GetList.f k y197 a1 a2).bind fun bt210 => ((stoaref02_GetList.f k l0 a1 a2).bind fun bt215 => (if t202 = bt215.2.1 then (if t203 = bt215.2.2 then ((stoaref01_SameNumbers.f k t201 bt215.1).bind fun t220 => (if t220 = true then ((stoaref01_SameNumbers.f k bt210.1 bt215.1).bind fun t221 => (stoalaw02_VintLists.j0 k l0 t194 t201 bt210.1 bt215.1 (!t221))) else (stoalaw02_VintLists.j0 k l0 t194 t201 bt210.1 bt215.1 true))) else (stoalaw02_VintLists.j0 k l0 t194 t201 bt210.1 bt215.1 true)) else (stoalaw02_VintLists.j0 k l0 t194 t201 bt210.1 bt215.1 true)))) = some r := by first | (rw [Ny197.out]; with_reducible exact H) | (have H2_ := (Option.bind_some _ _).symm.trans H; rw [Ny197.out]; with_reducible exact H2_) | (have H2_ := (Option.bind_some _ _).symm.trans H; with_reducible exact H2_) | with_reducible exact H | (rw [Ny197.out]; exact H) | exact H
        replace H := Option.bind_eq_some_iff.mp H
        obtain ⟨⟨t210, t211, t212⟩, A120, H⟩ := H
        replace H : ((stoaref02_GetList.f k l0 a1 a2).bind fun bt215 => (if t202 = bt215.2.1 then (if t203 = bt215.2.2 then ((stoaref01_SameNumbers.f k t201 bt215.1).bind fun t220 => (if t220 = true then ((stoaref01_SameNumbers.f k t210 bt215.1).bind fun t221 => (stoalaw02_VintLists.j0 k l0 t194 t201 t210 bt215.1 (!t221))) else (stoalaw02_VintLists.j0 k l0 t194 t201 t210 bt215.1 true))) else (stoalaw02_VintLists.j0 k l0 t194 t201 t210 bt215.1 true)) else (stoalaw02_VintLists.j0 k l0 t194 t201 t210 bt215.1 true))) = some r := H
        have A12 := Aside0.mk A120
        clear A120
        replace H := Option.bind_eq_some_iff.mp H
        obtain ⟨⟨t215, t216, t217⟩, A130, H⟩ := H
        replace H : (if t202 = t216 then (if t203 = t217 then ((stoaref01_SameNumbers.f k t201 t215).bind fun t220 => (if t220 = true then ((stoaref01_SameNumbers.f k t210 t215).bind fun t221 => (stoalaw02_VintLists.j0 k l0 t194 t201 t210 t215 (!t221))) else (stoalaw02_VintLists.j0 k l0 t194 t201 t210 t215 true))) else (stoalaw02_VintLists.j0 k l0 t194 t201 t210 t215 true)) else (stoalaw02_VintLists.j0 k l0 t194 t201 t210 t215 true)) = some r := H
        have A13 := Aside0.mk A130
        clear A130
        have HC14 := Aside0.mk H
        clear H
        go_enter Try.func5, Try.ntmps5
        go_upto_region 7 with (first | ((with_reducible refine gate_callee (f := 8) rfl ?_); refine goesL_ (some 18) rfl rfl Try.func8 (by kernel_rfl) rfl #[] rfl (by (try simp only [List.map_toArray, List.map_cons, List.map_nil]); first | done | rfl | (simp only [List.length_drop, List.length_take]; rfl)) ?_; (with_reducible refine (stoalaw02_alive.calls k  true _ A4.out).mono ?_); rintro e w15 ⟨rfl, hb⟩; refine ⟨_, rfl, ?_⟩; have n0_ := Aside0.mk (below_step (by repeat (first | (with_reducible first | exact HB.out | apply below_alloc | apply pw_below_drewN | apply below_drew1) | exact HB.out)) hb); clear HB; have HB := n0_; clear n0_; (try clear hb); (try clear hb2); (try clear hk); (try clear hi)) | ((with_reducible refine gate_callee (f := 17) rfl ?_); refine goesL_ (some 21) rfl rfl Try.func17 (by kernel_rfl) rfl #[.slice A0 l0.length c0] rfl (by (try simp only [List.map_toArray, List.map_cons, List.map_nil]); first | done | rfl | (simp only [List.length_drop, List.length_take]; rfl)) ?_; (with_reducible refine (stoaref01_Wide.calls k _ _ l0 t194 _ ?side1 ?side2 A6.out).mono ?_); (case side1 => repeat (first | exact (Kd.C_below HR0.out HB.out) | (with_reducible refine Kd.C_alloc ?_ _) | (with_reducible refine Kd.C_drewN ?_ _) | (with_reducible refine Kd.C_drew ?_))); (case side2 => exact HC0.out); rintro e w16 ⟨v195, rfl, ho0, hb⟩; refine ⟨_, rfl, ?_⟩; have n0_ := Aside0.mk (Kd.R_lower ho0 (below_size (by repeat (first | (with_reducible first | exact HB.out | apply below_alloc | apply pw_below_drewN | apply below_drew1) | exact HB.out)))); have n1_ := Aside0.mk (below_step (by repeat (first | (with_reducible first | exact HB.out | apply below_alloc | apply pw_below_drewN | apply below_drew1) | exact HB.out)) hb); clear HB; have HO196 := n0_; have HB := n1_; clear n0_ n1_; (try clear hb); (try clear hb2); (try clear hk); (try clear hi); (try clear ho0); obtain ⟨Ao18, co18, eo18⟩ := Kd.R_slice HO196.out; subst eo18; have q17 : ((l0.length : Int) : Int) ≤ ((t194.length : Int) : Int) := of_decide_eq_true (by first | (with_reducible assumption) | assumption); obtain ⟨i017, hi017, _, hsz17, _⟩ := info_parts info5; have hroom17 : t194.length ≤ co18 := (Kd.R_reads' HO196.out).2.1; have hC17 : Kd.C (Kd.int .u8) _ Ao18 t194.length t194 := (Kd.R_reads' HO196.out).2.2; have hcut17 := cut_to (P := Try.prog) 26 5 .i64 Try.underlying26 hi017 Ao18 t194.length co18 (l0.length : Int) (of_decide_eq_true (by first | (with_reducible assumption) | assumption)) q17 hroom17; have hr17 := Kd.C_take (m := ((l0.length : Int) : Int).toNat) hC17 (by omega); have hy17 : y197.length = ((l0.length : Int) : Int).toNat := (by rw [Ny197.out, List.length_take]; omega); rw [← Ny197.out] at hr17; rw [← hy17] at hcut17; have HR200 := Aside0.mk hr17; have HC200 := Aside0.mk (show y197.length ≤ co18 from by omega); clear hr17 hC17 hroom17 hi017 hsz17; have KY17 := Aside0.mk hy17; clear hy17; have KL17 := Aside0.mk (show ((l0.length : Int) : Int).toNat ≤ t194.length from by omega); replace q17 := eq_true q17) | ((with_reducible refine gate_callee (f := 21) rfl ?_); refine goesL_ (some 29) rfl rfl Try.func21 (by kernel_rfl) rfl #[.slice Ao18 y197.length co18, .int .i64 a1, .int .i64 a2] rfl (by (try simp only [List.map_toArray, List.map_cons, List.map_nil]); first | done | rfl | (simp only [List.length_drop, List.length_take]; rfl)) ?_; (with_reducible refine (vint_GetList.calls k _ _ y197 a1 a2 t201 t202 t203 _ ?side1 ?side2 A9.out).mono ?_); (case side1 => repeat (first | exact (by repeat (first | (with_reducible exact HR200.out) | (with_reducible refine Kd.C_alloc ?_ _) | (with_reducible refine Kd.C_drewN ?_ _) | (with_reducible refine Kd.C_drew ?_) | exact HR200.out)) | (with_reducible refine Kd.C_alloc ?_ _) | (with_reducible refine Kd.C_drewN ?_ _) | (with_reducible refine Kd.C_drew ?_))); (case side2 => exact HC200.out); rintro e w19 ⟨v204, rfl, ho0, hb⟩; refine ⟨_, rfl, ?_⟩; have n0_ := Aside0.mk (Kd.R_below (by (with_reducible repeat (first | apply Kd.R_alloc | apply Kd.R_drewN | apply Kd.R_drew)); exact HO196.out) hb); have n1_ := Aside0.mk (Kd.R_lower ho0 (below_size (by repeat (first | (with_reducible first | exact HB.out | apply below_alloc | apply pw_below_drewN | apply below_drew1) | exact HB.out)))); have n2_ := Aside0.mk (Kd.C_below (by repeat (first | (with_reducible exact HR200.out) | (with_reducible refine Kd.C_alloc ?_ _) | (with_reducible refine Kd.C_drewN ?_ _) | (with_reducible refine Kd.C_drew ?_) | exact HR200.out)) hb); have n3_ := Aside0.mk (below_step (by repeat (first | (with_reducible first | exact HB.out | apply below_alloc | apply pw_below_drewN | apply below_drew1) | exact HB.out)) hb); clear HO196; clear HR200; clear HB; have HO196 := n0_; have HO205 := n1_; have HR200 := n2_; have HB := n3_; clear n0_ n1_ n2_ n3_; (try clear hb); (try clear hb2); (try clear hk); (try clear hi); (try clear ho0); have q20 : ((l0.length : Int) : Int) ≤ ((t194.length : Int) : Int) := of_decide_eq_true (by first | (with_reducible assumption) | assumption); obtain ⟨i020, hi020, _, hsz20, _⟩ := info_parts info5; have hroom20 : t194.length ≤ co18 := (Kd.R_reads' HO196.out).2.1; have hC20 : Kd.C (Kd.int .u8) _ Ao18 t194.length t194 := (Kd.R_reads' HO196.out).2.2; have hcut20 := cut_to (P := Try.prog) 26 5 .i64 Try.underlying26 hi020 Ao18 t194.length co18 (l0.length : Int) (of_decide_eq_true (by first | (with_reducible assumption) | assumption)) q20 hroom20; have hr20 := Kd.C_take (m := ((l0.length : Int) : Int).toNat) hC20 (by omega); have hy20 : y197.length = ((l0.length : Int) : Int).toNat := (by rw [Ny197.out, List.length_take]; omega); rw [← Ny197.out] at hr20; rw [← hy20] at hcut20; have HR209 := Aside0.mk hr20; have HC209 := Aside0.mk (show y197.length ≤ co18 from by omega); clear hr20 hC20 hroom20 hi020 hsz20; have KY20 := Aside0.mk hy20; clear hy20; have KL20 := Aside0.mk (show ((l0.length : Int) : Int).toNat ≤ t194.length from by omega); replace q20 := eq_true q20) | ((with_reducible refine gate_callee (f := 21) rfl ?_); refine goesL_ (some 40) rfl rfl Try.func21 (by kernel_rfl) rfl #[.slice Ao18 y197.length co18, .int .i64 a1, .int .i64 a2] rfl (by (try simp only [List.map_toArray, List.map_cons, List.map_nil]); first | done | rfl | (simp only [List.length_drop, List.length_take]; rfl)) ?_; (with_reducible refine (vint_GetList.calls k _ _ y197 a1 a2 t210 t211 t212 _ ?side1 ?side2 A12.out).mono ?_); (case side1 => repeat (first | exact (by repeat (first | (with_reducible exact HR209.out) | (with_reducible refine Kd.C_alloc ?_ _) | (with_reducible refine Kd.C_drewN ?_ _) | (with_reducible refine Kd.C_drew ?_) | exact HR209.out)) | (with_reducible refine Kd.C_alloc ?_ _) | (with_reducible refine Kd.C_drewN ?_ _) | (with_reducible refine Kd.C_drew ?_))); (case side2 => exact HC209.out); rintro e w21 ⟨v213, rfl, ho0, hb⟩; refine ⟨_, rfl, ?_⟩; have n0_ := Aside0.mk (Kd.R_below (by (with_reducible repeat (first | apply Kd.R_alloc | apply Kd.R_drewN | apply Kd.R_drew)); exact HO196.out) hb); have n1_ := Aside0.mk (Kd.R_elder' (by (with_reducible repeat (first | apply Kd.R_alloc | apply Kd.R_drewN | apply Kd.R_drew)); exact HO205.out) (Kd.R_base ho0) hb); have n2_ := Aside0.mk (Kd.R_lower (Kd.R_new' ho0 (Kd.R_lt (by (with_reducible repeat (first | apply Kd.R_alloc | apply Kd.R_drewN | apply Kd.R_drew)); exact HO205.out))) (below_size (by repeat (first | (with_reducible first | exact HB.out | apply below_alloc | apply pw_below_drewN | apply below_drew1) | exact HB.out)))); have n3_ := Aside0.mk (Kd.C_below (by repeat (first | (with_reducible exact HR200.out) | (with_reducible refine Kd.C_alloc ?_ _) | (with_reducible refine Kd.C_drewN ?_ _) | (with_reducible refine Kd.C_drew ?_) | exact HR200.out)) hb); have n4_ := Aside0.mk (Kd.C_below (by repeat (first | (with_reducible exact HR209.out) | (with_reducible refine Kd.C_alloc ?_ _) | (with_reducible refine Kd.C_drewN ?_ _) | (with_reducible refine Kd.C_drew ?_) | exact HR209.out)) hb); have n5_ := Aside0.mk (below_step (by repeat (first | (with_reducible first | exact HB.out | apply below_alloc | apply pw_below_drewN | apply below_drew1) | exact HB.out)) hb); clear HO196; clear HO205; clear HR200; clear HR209; clear HB; have HO196 := n0_; have HO205 := n1_; have HO214 := n2_; have HR200 := n3_; have HR209 := n4_; have HB := n5_; clear n0_ n1_ n2_ n3_ n4_ n5_; (try clear hb); (try clear hb2); (try clear hk); (try clear hi); (try clear ho0)) | ((with_reducible refine gate_callee (f := 22) rfl ?_); refine goesL_ (some 48) rfl rfl Try.func22 (by kernel_rfl) rfl #[.slice A0 l0.length c0, .int .i64 a1, .int .i64 a2] rfl (by (try simp only [List.map_toArray, List.map_cons, List.map_nil]); first | done | rfl | (simp only [List.length_drop, List.length_take]; rfl)) ?_; (with_reducible refine (stoaref02_GetList.calls k _ _ l0 a1 a2 t215 t216 t217 _ ?side1 ?side2 A13.out).mono ?_); (case side1 => repeat (first | exact (Kd.C_below HR0.out HB.out) | (with_reducible refine Kd.C_alloc ?_ _) | (with_reducible refine Kd.C_drewN ?_ _) | (with_reducible refine Kd.C_drew ?_))); (case side2 => exact HC0.out); rintro e w22 ⟨v218, rfl, ho0, hb⟩; refine ⟨_, rfl, ?_⟩; have n0_ := Aside0.mk (Kd.R_below (by (with_reducible repeat (first | apply Kd.R_alloc | apply Kd.R_drewN | apply Kd.R_drew)); exact HO196.out) hb); have n1_ := Aside0.mk (Kd.R_elder' (by (with_reducible repeat (first | apply Kd.R_alloc | apply Kd.R_drewN | apply Kd.R_drew)); exact HO205.out) (Kd.R_base ho0) hb); have n2_ := Aside0.mk (Kd.R_elder' (by (with_reducible repeat (first | apply Kd.R_alloc | apply Kd.R_drewN | apply Kd.R_drew)); exact HO214.out) (Kd.R_base ho0) hb); have n3_ := Aside0.mk (Kd.R_lower (Kd.R_new' (Kd.R_new' ho0 (Kd.R_lt (by (with_reducible repeat (first | apply Kd.R_alloc | apply Kd.R_drewN | apply Kd.R_drew)); exact HO205.out))) (Kd.R_lt (by (with_reducible repeat (first | apply Kd.R_alloc | apply Kd.R_drewN | apply Kd.R_drew)); exact HO214.out))) (below_size (by repeat (first | (with_reducible first | exact HB.out | apply below_alloc | apply pw_below_drewN | apply below_drew1) | exact HB.out)))); have n4_ := Aside0.mk (Kd.C_below (by repeat (first | (with_reducible exact HR200.out) | (with_reducible refine Kd.C_alloc ?_ _) | (with_reducible refine Kd.C_drewN ?_ _) | (with_reducible refine Kd.C_drew ?_) | exact HR200.out)) hb); have n5_ := Aside0.mk (Kd.C_below (by repeat (first | (with_reducible exact HR209.out) | (with_reducible refine Kd.C_alloc ?_ _) | (with_reducible refine Kd.C_drewN ?_ _) | (with_reducible refine Kd.C_drew ?_) | exact HR209.out)) hb); have n6_ := Aside0.mk (below_step (by repeat (first | (with_reducible first | exact HB.out | apply below_alloc | apply pw_below_drewN | apply below_drew1) | exact HB.out)) hb); clear HO196; clear HO205; clear HO214; clear HR200; clear HR209; clear HB; have HO196 := n0_; have HO205 := n1_; have HO214 := n2_; have HO219 := n3_; have HR200 := n4_; have HR209 := n5_; have HB := n6_; clear n0_ n1_ n2_ n3_ n4_ n5_ n6_; (try clear hb); (try clear hb2); (try clear hk); (try clear hi); (try clear ho0)))
        (try simp only [Act.put, List.setIfInBounds_toArray, List.set_cons_zero, List.set_cons_succ])
        go_cut [71] (fun v71 wc => ∃ (kq : Nat) (x71_13 : Bool), v71 = .bool x71_13 ∧ Aside0 (stoalaw02_VintLists.j0 kq l0 t194 t201 t210 t215 x71_13 = some r) ∧ Aside0 (kq ≤ k) ∧ Aside0 (Kd.R (Kd.int .u8) 5 wc w.heap.size (fun _ => True) (.slice Ao18 t194.length co18) t194) ∧ Aside0 (Kd.R (Kd.int .u64) 30 wc w.heap.size (fun k_ => some k_ ≠ (v213 : Value).ownBlock ∧ some k_ ≠ (v218 : Value).ownBlock) v204 t201) ∧ Aside0 (Kd.R (Kd.int .u64) 30 wc w.heap.size (fun k_ => some k_ ≠ (v204 : Value).ownBlock ∧ some k_ ≠ (v218 : Value).ownBlock) v213 t210) ∧ Aside0 (Kd.R (Kd.int .u64) 30 wc w.heap.size (fun k_ => some k_ ≠ (v204 : Value).ownBlock ∧ some k_ ≠ (v213 : Value).ownBlock) v218 t215) ∧ Aside0 (Kd.C (Kd.int .u8) wc Ao18 y197.length y197) ∧ Aside0 (Kd.C (Kd.int .u8) wc Ao18 y197.length y197) ∧ Aside0 (Below w.heap.size w wc))
        case first =>
          have H := HC14.out
          clear HC14
          by_cases c23 : t202 = t216
          · rw [if_pos c23] at H
            have c23b0 : (t202 == t216) = true := beq_iff_eq.mpr c23
            have c23b1 : (t202 != t216) = false := bne_eq_false_iff_eq.mpr c23
            clear c23
            (first | rw [c23b0] | (simp only [i64_w, i32_w]; rw [c23b0]) | skip)
            by_cases c24 : t203 = t217
            · rw [if_pos c24] at H
              have c24b0 : (t203 == t217) = true := beq_iff_eq.mpr c24
              have c24b1 : (t203 != t217) = false := bne_eq_false_iff_eq.mpr c24
              clear c24
              replace H := Option.bind_eq_some_iff.mp H
              obtain ⟨t220, A250, H⟩ := H
              replace H : (if t220 = true then ((stoaref01_SameNumbers.f k t210 t215).bind fun t221 => (stoalaw02_VintLists.j0 k l0 t194 t201 t210 t215 (!t221))) else (stoalaw02_VintLists.j0 k l0 t194 t201 t210 t215 true)) = some r := H
              have A25 := Aside0.mk A250
              clear A250
              by_cases c26 : t220 = true
              · subst c26
                have H1 : ((stoaref01_SameNumbers.f k t210 t215).bind fun t221 => (stoalaw02_VintLists.j0 k l0 t194 t201 t210 t215 (!t221))) = some r := by rw [if_pos rfl] at H; exact H
                clear H
                have H := H1
                clear H1
                replace H := Option.bind_eq_some_iff.mp H
                obtain ⟨t221, A270, H⟩ := H
                replace H : (stoalaw02_VintLists.j0 k l0 t194 t201 t210 t215 (!t221)) = some r := H
                have A27 := Aside0.mk A270
                clear A270
                have H' := Aside0.mk H
                clear H
                obtain ⟨Ao28, co28, eo28⟩ := Kd.R_slice HO205.out
                subst eo28
                obtain ⟨Ao29, co29, eo29⟩ := Kd.R_slice HO219.out
                subst eo29
                go_wp2_with (first | (go_at_call 13; (with_reducible refine (stoaref01_SameNumbers.calls k _ _ t201 _ _ t215 true _ ?side1 ?side2 ?side3 ?side4 A25.out).mono ?_); (case side1 => repeat (first | exact (Kd.R_reads' HO205.out).2.2 | (with_reducible refine Kd.C_alloc ?_ _) | (with_reducible refine Kd.C_drewN ?_ _) | (with_reducible refine Kd.C_drew ?_))); (case side2 => exact (Kd.R_reads' HO205.out).2.1); (case side3 => repeat (first | exact (Kd.R_reads' HO219.out).2.2 | (with_reducible refine Kd.C_alloc ?_ _) | (with_reducible refine Kd.C_drewN ?_ _) | (with_reducible refine Kd.C_drew ?_))); (case side4 => exact (Kd.R_reads' HO219.out).2.1); rintro e w' ⟨rfl, ⟨nd, rfl⟩⟩; obtain ⟨Ao30, co30, eo30⟩ := Kd.R_slice HO214.out; subst eo30) | (go_at_call 13; (with_reducible refine (stoaref01_SameNumbers.calls k _ _ t210 _ _ t215 t221 _ ?side1 ?side2 ?side3 ?side4 A27.out).mono ?_); (case side1 => repeat (first | exact (Kd.R_reads' HO214.out).2.2 | (with_reducible refine Kd.C_alloc ?_ _) | (with_reducible refine Kd.C_drewN ?_ _) | (with_reducible refine Kd.C_drew ?_))); (case side2 => exact (Kd.R_reads' HO214.out).2.1); (case side3 => repeat (first | exact (Kd.R_reads' HO219.out).2.2 | (with_reducible refine Kd.C_alloc ?_ _) | (with_reducible refine Kd.C_drewN ?_ _) | (with_reducible refine Kd.C_drew ?_))); (case side4 => exact (Kd.R_reads' HO219.out).2.1); rintro e w' ⟨rfl, ⟨nd, rfl⟩⟩))
                go_meet
                case rel => exact ⟨_, (!t221), (by first | rfl | (simp; done) | (simp [*]; done)), H', ⟨by first | omega | exact Nat.le_refl _⟩, ⟨by (with_reducible repeat (first | apply Kd.R_alloc | apply Kd.R_drewN | apply Kd.R_drew)); exact HO196.out⟩, ⟨by (with_reducible repeat (first | apply Kd.R_alloc | apply Kd.R_drewN | apply Kd.R_drew)); exact Kd.R_mono HO205.out (fun _ hk => ⟨hk.1.2, hk.2⟩)⟩, ⟨by (with_reducible repeat (first | apply Kd.R_alloc | apply Kd.R_drewN | apply Kd.R_drew)); exact Kd.R_mono HO214.out (fun _ hk => ⟨hk.1.2, hk.2⟩)⟩, ⟨by (with_reducible repeat (first | apply Kd.R_alloc | apply Kd.R_drewN | apply Kd.R_drew)); exact Kd.R_mono HO219.out (fun _ hk => ⟨hk.1.2, hk.2⟩)⟩, ⟨by repeat (first | (with_reducible exact HR200.out) | (with_reducible refine Kd.C_alloc ?_ _) | (with_reducible refine Kd.C_drewN ?_ _) | (with_reducible refine Kd.C_drew ?_) | exact HR200.out)⟩, ⟨by repeat (first | (with_reducible exact HR209.out) | (with_reducible refine Kd.C_alloc ?_ _) | (with_reducible refine Kd.C_drewN ?_ _) | (with_reducible refine Kd.C_drew ?_) | exact HR209.out)⟩, ⟨by repeat (first | (with_reducible first | exact HB.out | apply below_alloc | apply pw_below_drewN | apply below_drew1) | exact HB.out)⟩⟩
              · replace c26 := Bool.eq_false_iff.mpr c26
                subst c26
                have H1 : (stoalaw02_VintLists.j0 k l0 t194 t201 t210 t215 true) = some r := by rw [if_neg (show ¬ (false = true) by decide)] at H; exact H
                clear H
                have H := H1
                clear H1
                have H' := Aside0.mk H
                clear H
                obtain ⟨Ao31, co31, eo31⟩ := Kd.R_slice HO205.out
                subst eo31
                obtain ⟨Ao32, co32, eo32⟩ := Kd.R_slice HO219.out
                subst eo32
                go_wp2_with (first | (go_at_call 13; (with_reducible refine (stoaref01_SameNumbers.calls k _ _ t201 _ _ t215 false _ ?side1 ?side2 ?side3 ?side4 A25.out).mono ?_); (case side1 => repeat (first | exact (Kd.R_reads' HO205.out).2.2 | (with_reducible refine Kd.C_alloc ?_ _) | (with_reducible refine Kd.C_drewN ?_ _) | (with_reducible refine Kd.C_drew ?_))); (case side2 => exact (Kd.R_reads' HO205.out).2.1); (case side3 => repeat (first | exact (Kd.R_reads' HO219.out).2.2 | (with_reducible refine Kd.C_alloc ?_ _) | (with_reducible refine Kd.C_drewN ?_ _) | (with_reducible refine Kd.C_drew ?_))); (case side4 => exact (Kd.R_reads' HO219.out).2.1); rintro e w' ⟨rfl, ⟨nd, rfl⟩⟩))
                go_meet
                case rel => exact ⟨_, (true), (by first | rfl | (simp; done) | (simp [*]; done)), H', ⟨by first | omega | exact Nat.le_refl _⟩, ⟨by (with_reducible repeat (first | apply Kd.R_alloc | apply Kd.R_drewN | apply Kd.R_drew)); exact HO196.out⟩, ⟨by (with_reducible repeat (first | apply Kd.R_alloc | apply Kd.R_drewN | apply Kd.R_drew)); exact Kd.R_mono HO205.out (fun _ hk => ⟨hk.1.2, hk.2⟩)⟩, ⟨by (with_reducible repeat (first | apply Kd.R_alloc | apply Kd.R_drewN | apply Kd.R_drew)); exact Kd.R_mono HO214.out (fun _ hk => ⟨hk.1.2, hk.2⟩)⟩, ⟨by (with_reducible repeat (first | apply Kd.R_alloc | apply Kd.R_drewN | apply Kd.R_drew)); exact Kd.R_mono HO219.out (fun _ hk => ⟨hk.1.2, hk.2⟩)⟩, ⟨by repeat (first | (with_reducible exact HR200.out) | (with_reducible refine Kd.C_alloc ?_ _) | (with_reducible refine Kd.C_drewN ?_ _) | (with_reducible refine Kd.C_drew ?_) | exact HR200.out)⟩, ⟨by repeat (first | (with_reducible exact HR209.out) | (with_reducible refine Kd.C_alloc ?_ _) | (with_reducible refine Kd.C_drewN ?_ _) | (with_reducible refine Kd.C_drew ?_) | exact HR209.out)⟩, ⟨by repeat (first | (with_reducible first | exact HB.out | apply below_alloc | apply pw_below_drewN | apply below_drew1) | exact HB.out)⟩⟩
            · rw [if_neg c24] at H
              have c24b0 : (t203 == t217) = false := beq_eq_false_iff_ne.mpr c24
              have c24b1 : (t203 != t217) = true := bne_iff_ne.mpr c24
              have H' := Aside0.mk H
              clear H
              go_wp2
              go_meet
              case rel => exact ⟨_, (true), (by first | rfl | (simp; done) | (simp [*]; done)), H', ⟨by first | omega | exact Nat.le_refl _⟩, ⟨by (with_reducible repeat (first | apply Kd.R_alloc | apply Kd.R_drewN | apply Kd.R_drew)); exact HO196.out⟩, ⟨by (with_reducible repeat (first | apply Kd.R_alloc | apply Kd.R_drewN | apply Kd.R_drew)); exact Kd.R_mono HO205.out (fun _ hk => ⟨hk.1.2, hk.2⟩)⟩, ⟨by (with_reducible repeat (first | apply Kd.R_alloc | apply Kd.R_drewN | apply Kd.R_drew)); exact Kd.R_mono HO214.out (fun _ hk => ⟨hk.1.2, hk.2⟩)⟩, ⟨by (with_reducible repeat (first | apply Kd.R_alloc | apply Kd.R_drewN | apply Kd.R_drew)); exact Kd.R_mono HO219.out (fun _ hk => ⟨hk.1.2, hk.2⟩)⟩, ⟨by repeat (first | (with_reducible exact HR200.out) | (with_reducible refine Kd.C_alloc ?_ _) | (with_reducible refine Kd.C_drewN ?_ _) | (with_reducible refine Kd.C_drew ?_) | exact HR200.out)⟩, ⟨by repeat (first | (with_reducible exact HR209.out) | (with_reducible refine Kd.C_alloc ?_ _) | (with_reducible refine Kd.C_drewN ?_ _) | (with_reducible refine Kd.C_drew ?_) | exact HR209.out)⟩, ⟨by repeat (first | (with_reducible first | exact HB.out | apply below_alloc | apply pw_below_drewN | apply below_drew1) | exact HB.out)⟩⟩
          · rw [if_neg c23] at H
            have c23b0 : (t202 == t216) = false := beq_eq_false_iff_ne.mpr c23
            have c23b1 : (t202 != t216) = true := bne_iff_ne.mpr c23
            (first | rw [c23b0] | (simp only [i64_w, i32_w]; rw [c23b0]) | skip)
            have H' := Aside0.mk H
            clear H
            go_wp2
            go_meet
            case rel => exact ⟨_, (true), (by first | rfl | (simp; done) | (simp [*]; done)), H', ⟨by first | omega | exact Nat.le_refl _⟩, ⟨by (with_reducible repeat (first | apply Kd.R_alloc | apply Kd.R_drewN | apply Kd.R_drew)); exact HO196.out⟩, ⟨by (with_reducible repeat (first | apply Kd.R_alloc | apply Kd.R_drewN | apply Kd.R_drew)); exact Kd.R_mono HO205.out (fun _ hk => ⟨hk.1.2, hk.2⟩)⟩, ⟨by (with_reducible repeat (first | apply Kd.R_alloc | apply Kd.R_drewN | apply Kd.R_drew)); exact Kd.R_mono HO214.out (fun _ hk => ⟨hk.1.2, hk.2⟩)⟩, ⟨by (with_reducible repeat (first | apply Kd.R_alloc | apply Kd.R_drewN | apply Kd.R_drew)); exact Kd.R_mono HO219.out (fun _ hk => ⟨hk.1.2, hk.2⟩)⟩, ⟨by repeat (first | (with_reducible exact HR200.out) | (with_reducible refine Kd.C_alloc ?_ _) | (with_reducible refine Kd.C_drewN ?_ _) | (with_reducible refine Kd.C_drew ?_) | exact HR200.out)⟩, ⟨by repeat (first | (with_reducible exact HR209.out) | (with_reducible refine Kd.C_alloc ?_ _) | (with_reducible refine Kd.C_drewN ?_ _) | (with_reducible refine Kd.C_drew ?_) | exact HR209.out)⟩, ⟨by repeat (first | (with_reducible first | exact HB.out | apply below_alloc | apply pw_below_drewN | apply below_drew1) | exact HB.out)⟩⟩
        case rest =>
          clear HC14
          try clear c1
          try clear q1
          try clear c2
          try clear p2
          try clear q2
          try clear c5
          try clear c7
          try clear c7b0
          try clear c7b1
          try clear c8
          try clear c8b0
          try clear c8b1
          try clear c10
          try clear c10b0
          try clear c11
          try clear c11b0
          try clear c17
          try clear q17
          try clear q20
          try clear c21
          try clear c22
          try clear c23
          try clear c23b0
          try clear c23b1
          try clear c24
          try clear c24b0
          try clear c24b1
          try clear c26
          try clear q17
          try clear q20
          obtain ⟨kq, x71_13, rfl, HA, HJ13, HO_7, HO_8, HO_11, HO_14, HR200, HR209, HB⟩ := hcut
          cases kq with
          | zero => exact absurd HA.out (by simp [stoalaw02_VintLists.j0])
          | succ kj13 =>
            have H := HA.out
            clear HA
            simp only [stoalaw02_VintLists.j0] at H
            by_cases c33 : x71_13 = true
            · subst c33
              have H1 : (some false) = some r := by rw [if_pos rfl] at H; exact H
              clear H
              have H := H1
              clear H1
              obtain rfl := Option.some.inj H
              go_wp2
              go_ret
              exact ⟨by first | rfl | (simp [errW_none, errW_some] <;> rfl) | (simp [*, errW_none, errW_some] <;> rfl), by repeat (first | (with_reducible first | exact HB.out | apply below_alloc | apply pw_below_drewN | apply below_drew1) | exact HB.out)⟩
            · replace c33 := Bool.eq_false_iff.mpr c33
              subst c33
              have H1 : (stoalaw02_VintLists.l0 kj13 l0 t194 t201 t210 t215 (t201.length : Int) 0) = some r := by rw [if_neg (show ¬ (false = true) by decide)] at H; exact H
              clear H
              have H := H1
              clear H1
              have H' := Aside0.mk H
              clear H
              obtain ⟨Ao34, co34, eo34⟩ := Kd.R_slice HO_8.out
              subst eo34
              go_wp2
              go_loopg [74] kj13 (fun kq v74 w' => ∃ (x8_2 : List Int) (x74_2 : Int), v74 = .int .i64 x74_2 ∧ Aside0 (stoalaw02_VintLists.l0 kq l0 t194 x8_2 t210 t215 (t201.length : Int) x74_2 = some r) ∧ Aside0 (kq ≤ kj13) ∧ Aside0 (Kd.R (Kd.int .u8) 5 w' w.heap.size (fun _ => True) (.slice Ao18 t194.length co18) t194) ∧ Aside0 (Kd.R (Kd.int .u64) 30 w' w.heap.size (fun k_ => some k_ ≠ (v213 : Value).ownBlock ∧ some k_ ≠ (v218 : Value).ownBlock) (.slice Ao34 t201.length co34) x8_2) ∧ Aside0 (Kd.R (Kd.int .u64) 30 w' w.heap.size (fun k_ => some k_ ≠ ((.slice Ao34 t201.length co34) : Value).ownBlock ∧ some k_ ≠ (v218 : Value).ownBlock) v213 t210) ∧ Aside0 (Kd.R (Kd.int .u64) 30 w' w.heap.size (fun k_ => some k_ ≠ ((.slice Ao34 t201.length co34) : Value).ownBlock ∧ some k_ ≠ (v213 : Value).ownBlock) v218 t215) ∧ Aside0 (Below w.heap.size w w'))
              case atStart => exact ⟨(t201), (0), (by first | rfl | (simp; done) | (simp [*]; done)), H', ⟨Nat.le_refl _⟩, ⟨by (with_reducible repeat (first | apply Kd.R_alloc | apply Kd.R_drewN | apply Kd.R_drew)); exact HO_7.out⟩, ⟨by (with_reducible repeat (first | apply Kd.R_alloc | apply Kd.R_drewN | apply Kd.R_drew)); exact HO_8.out⟩, ⟨by (with_reducible repeat (first | apply Kd.R_alloc | apply Kd.R_drewN | apply Kd.R_drew)); exact HO_11.out⟩, ⟨by (with_reducible repeat (first | apply Kd.R_alloc | apply Kd.R_drewN | apply Kd.R_drew)); exact HO_14.out⟩, ⟨by repeat (first | (with_reducible first | exact HB.out | apply below_alloc | apply pw_below_drewN | apply below_drew1) | exact HB.out)⟩⟩
              case round =>
                clear H'
                try clear c1
                try clear q1
                try clear c2
                try clear p2
                try clear q2
                try clear c3
                try clear c5
                try clear c7
                try clear c7b0
                try clear c7b1
                try clear c8
                try clear c8b0
                try clear c8b1
                try clear c10
                try clear c10b0
                try clear c11
                try clear c11b0
                try clear c17
                try clear q17
                try clear q20
                try clear c21
                try clear c22
                try clear c23
                try clear c23b0
                try clear c23b1
                try clear c24
                try clear c24b0
                try clear c24b1
                try clear c26
                try clear c33
                try clear p2
                try clear q1
                try clear q17
                try clear q2
                try clear q20
                obtain ⟨x8_2, x74_2, rfl, HA, HK2, HO_7, HO_8, HO_11, HO_14, HB⟩ := hrel
                have hl8_2 := (Kd.R_reads' HO_8.out).1
                rw [hl8_2] at HO_8
                (try simp only [hl8_2])
                (try simp only [hl8_2] at HO_7)
                (try simp only [hl8_2] at HO_11)
                (try simp only [hl8_2] at HO_14)
                cases gk with
                | zero => exact absurd HA.out (by simp [stoalaw02_VintLists.l0])
                | succ k2 =>
                  have H := HA.out
                  clear HA
                  simp only [stoalaw02_VintLists.l0] at H
                  by_cases c35 : x74_2 < (t201.length : Int)
                  · rw [if_pos c35] at H
                    have c35b0 : decide (x74_2 < (t201.length : Int)) = true := decide_eq_true c35
                    clear c35
                    by_cases c36 : 0 ≤ x74_2
                    · rw [if_pos c36] at H
                      have c36b0 : decide (0 ≤ x74_2) = true := decide_eq_true c36
                      clear c36
                      by_cases c37 : x74_2 < (x8_2.length : Int)
                      · rw [if_pos c37] at H
                        have c37b0 : decide (x74_2 < (x8_2.length : Int)) = true := decide_eq_true c37
                        clear c37
                        obtain ⟨y223, hy223⟩ : ∃ y_ : List Int, y_ = (x8_2.set (x74_2 : Int).toNat (IntKind.u64.wrap ((rd x8_2 x74_2) + 1))) := ⟨_, rfl⟩
                        replace H : (stoalaw02_VintLists.l0 k2 l0 t194 y223 t210 t215 (t201.length : Int) (wrap64 (x74_2 + 1))) = some r := by first | (rw [hy223]; with_reducible exact H) | (have H2_ := (Option.bind_some _ _).symm.trans H; rw [hy223]; with_reducible exact H2_) | (have H2_ := (Option.bind_some _ _).symm.trans H; with_reducible exact H2_) | with_reducible exact H | (rw [hy223]; exact H) | exact H
                        have Ny223 := Aside0.mk hy223
                        clear hy223
                        have H' := Aside0.mk H
                        clear H
                        have p222 : 0 ≤ (x74_2 : Int) := of_decide_eq_true (by first | (with_reducible assumption) | assumption)
                        have q222 : x74_2 < (x8_2.length : Int) := of_decide_eq_true (by first | (with_reducible assumption) | assumption)
                        obtain ⟨ad222, e222, hx222_0⟩ := Kd.at_int (Kd.R_reads' HO_8.out).2.2 x74_2 p222 q222
                        cases e222
                        replace p222 := eq_true p222
                        replace q222 := eq_true q222
                        have p38 : 0 ≤ (x74_2 : Int) := of_decide_eq_true (by first | (with_reducible assumption) | assumption)
                        have q38 : (x74_2 : Int) < ((x8_2.length : Int) : Int) := of_decide_eq_true (by first | (with_reducible assumption) | assumption)
                        obtain ⟨go38, co38, eo38, gb38, gl38, cl38, HG38⟩ := Kd.R_form HO_8.out (by omega)
                        (first | cases eo38 | (injection eo38 with ea_ en_ ec_; (first | subst ea_ | (injection ea_ with ea_; subst ea_)); subst ec_; clear en_))
                        have GB38 := Aside0.mk gb38
                        have GG38 := Aside0.mk HG38
                        clear gb38 gl38 HG38
                        (first | simp only [add_plain] at hx222_0 | skip)
                        obtain ⟨hx38_0, hf38_0⟩ := Kd.R_celln 0 HO_8.out (x74_2 : Int) p38 q38
                        replace p38 := eq_true p38
                        replace q38 := eq_true q38
                        have HP39 := Kd.R_putg HO_8.out (x74_2 : Int) (IntKind.u64.wrap ((rd x8_2 x74_2) + 1))
                        go_wp2_with (first | ((with_reducible refine gate_store (t := 30) (p := 84) rfl ?_); refine store_event (t := 30) (p := 84) (v := ?vo_w40) (w1 := (wr.setCell ⟨go38, (x74_2 : Int).toNat, none⟩ (.int .u64 (IntKind.u64.wrap ((rd x8_2 x74_2) + 1))))) ?hg ?ho ?hn ?hr ?_; (case ho => rfl); (case hg => rfl); (case hn => rfl); (case hr => first | (go_simp; done) | (go_simp; rfl)); intro w40 hw; have hg : wr.grownBy w40 (some go38) := (by rw [hw]; exact HP39.2); have hp_ : Kd.R (Kd.int .u64) 30 w40 w.heap.size (fun k_ => some k_ ≠ (v213 : Value).ownBlock ∧ some k_ ≠ (v218 : Value).ownBlock) (.slice (some ⟨go38, 0, none⟩) x8_2.length co34) y223 := (by rw [hw, Ny223.out]; exact HP39.1); clear HP39; have n0_ := Aside0.mk (Kd.R_over' (v := (.slice (some ⟨go38, 0, none⟩) x8_2.length co34)) (by (with_reducible repeat (first | apply Kd.R_alloc | apply Kd.R_drewN | apply Kd.R_drew)); exact HO_7.out) (Kd.R_typed HO_8.out) (by decide) hg); have n1_ := Aside0.mk (hp_); have n2_ := Aside0.mk (Kd.R_after (v := (.slice (some ⟨go38, 0, none⟩) x8_2.length co34)) (v1 := (.slice (some ⟨go38, 0, none⟩) x8_2.length co34)) (ok := (fun k_ => some k_ ≠ (v218 : Value).ownBlock)) (by (with_reducible repeat (first | apply Kd.R_alloc | apply Kd.R_drewN | apply Kd.R_drew)); exact Kd.R_mono HO_11.out (fun _ hk => ⟨hk.2, hk.1⟩)) hg (.inl rfl)); have n3_ := Aside0.mk (Kd.R_after (v := (.slice (some ⟨go38, 0, none⟩) x8_2.length co34)) (v1 := (.slice (some ⟨go38, 0, none⟩) x8_2.length co34)) (ok := (fun k_ => some k_ ≠ (v213 : Value).ownBlock)) (by (with_reducible repeat (first | apply Kd.R_alloc | apply Kd.R_drewN | apply Kd.R_drew)); exact Kd.R_mono HO_14.out (fun _ hk => ⟨hk.2, hk.1⟩)) hg (.inl rfl)); have n4_ := Aside0.mk ((by rw [hw]; exact below_set (HB.out) GB38.out : Below w.heap.size w w40)); clear HO_7; clear HO_8; clear HO_11; clear HO_14; clear HB; have HO_7 := n0_; have HO_8 := n1_; have HO_11 := n2_; have HO_14 := n3_; have HB := n4_; clear n0_ n1_ n2_ n3_ n4_; clear hg hw hp_))
                        (try simp only [← hl8_2])
                        go_roundg k2
                        case measure => have := HJ13.out; have := HK2.out; omega
                        case rel => exact ⟨(y223), (wrap64 (x74_2 + 1)), (by first | rfl | (simp; done) | (simp [*]; done)), H', ⟨by have := HJ13.out; have := HK2.out; omega⟩, ⟨by (try simp only [hl8_2]); (with_reducible repeat (first | apply Kd.R_alloc | apply Kd.R_drewN | apply Kd.R_drew)); exact HO_7.out⟩, ⟨by (try simp only [hl8_2]); (with_reducible repeat (first | apply Kd.R_alloc | apply Kd.R_drewN | apply Kd.R_drew)); exact HO_8.out⟩, ⟨by (try simp only [hl8_2]); (with_reducible repeat (first | apply Kd.R_alloc | apply Kd.R_drewN | apply Kd.R_drew)); exact Kd.R_mono HO_11.out (fun _ hk => ⟨hk.2, hk.1⟩)⟩, ⟨by (try simp only [hl8_2]); (with_reducible repeat (first | apply Kd.R_alloc | apply Kd.R_drewN | apply Kd.R_drew)); exact Kd.R_mono HO_14.out (fun _ hk => ⟨hk.2, hk.1⟩)⟩, ⟨by repeat (first | (with_reducible first | exact HB.out | apply below_alloc | apply pw_below_drewN | apply below_drew1) | exact HB.out)⟩⟩
                      · rw [if_neg c37] at H
                        exact absurd H (by simp)
                    · rw [if_neg c36] at H
                      exact absurd H (by simp)
                  · rw [if_neg c35] at H
                    have c35b0 : decide (x74_2 < (t201.length : Int)) = false := decide_eq_false c35
                    (try (have c35b0r := c35b0; simp only [hl8_2] at c35b0r))
                    clear c35
                    replace H := Option.bind_eq_some_iff.mp H
                    obtain ⟨t224, A410, H⟩ := H
                    replace H : (if t224 = true then ((stoaref01_Intact.f k2 t194 l0).bind fun t225 => (some t225)) else (some false)) = some r := H
                    have A41 := Aside0.mk A410
                    clear A410
                    by_cases c42 : t224 = true
                    · subst c42
                      have H1 : ((stoaref01_Intact.f k2 t194 l0).bind fun t225 => (some t225)) = some r := by rw [if_pos rfl] at H; exact H
                      clear H
                      have H := H1
                      clear H1
                      replace H := Option.bind_eq_some_iff.mp H
                      obtain ⟨t225, A430, H⟩ := H
                      replace H : (some t225) = some r := H
                      have A43 := Aside0.mk A430
                      clear A430
                      obtain rfl := Option.some.inj H
                      obtain ⟨Ao44, co44, eo44⟩ := Kd.R_slice HO_11.out
                      subst eo44
                      obtain ⟨Ao45, co45, eo45⟩ := Kd.R_slice HO_14.out
                      subst eo45
                      go_wp2_with (first | ((with_reducible refine gate_callee (f := 13) rfl ?_); refine goesL_ (some 88) rfl rfl Try.func13 (by kernel_rfl) rfl #[.slice Ao44 t210.length co44, .slice Ao45 t215.length co45] rfl (by (try simp only [List.map_toArray, List.map_cons, List.map_nil]); first | done | rfl | (simp only [List.length_drop, List.length_take]; rfl)) ?_; (with_reducible refine (stoaref01_SameNumbers.calls k2 _ _ t210 _ _ t215 true _ ?side1 ?side2 ?side3 ?side4 A41.out).mono ?_); (case side1 => repeat (first | exact (Kd.R_reads' HO_11.out).2.2 | (with_reducible refine Kd.C_alloc ?_ _) | (with_reducible refine Kd.C_drewN ?_ _) | (with_reducible refine Kd.C_drew ?_))); (case side2 => exact (Kd.R_reads' HO_11.out).2.1); (case side3 => repeat (first | exact (Kd.R_reads' HO_14.out).2.2 | (with_reducible refine Kd.C_alloc ?_ _) | (with_reducible refine Kd.C_drewN ?_ _) | (with_reducible refine Kd.C_drew ?_))); (case side4 => exact (Kd.R_reads' HO_14.out).2.1); rintro e w' ⟨rfl, ⟨nd, rfl⟩⟩; refine ⟨_, rfl, ?_⟩) | (go_at_call 20; (with_reducible refine (stoaref01_Intact.calls k2 _ _ t194 _ _ l0 t225 _ ?side1 ?side2 ?side3 ?side4 A43.out).mono ?_); (case side1 => repeat (first | exact (Kd.R_reads' HO_7.out).2.2 | (with_reducible refine Kd.C_alloc ?_ _) | (with_reducible refine Kd.C_drewN ?_ _) | (with_reducible refine Kd.C_drew ?_))); (case side2 => exact (Kd.R_reads' HO_7.out).2.1); (case side3 => repeat (first | exact (Kd.C_below HR0.out (by repeat (first | (with_reducible first | exact HB.out | apply below_alloc | apply pw_below_drewN | apply below_drew1) | exact HB.out))) | (with_reducible refine Kd.C_alloc ?_ _) | (with_reducible refine Kd.C_drewN ?_ _) | (with_reducible refine Kd.C_drew ?_))); (case side4 => exact HC0.out); rintro e w' ⟨rfl, ⟨nd, rfl⟩⟩))
                      go_ret
                      exact ⟨by first | rfl | (simp [errW_none, errW_some] <;> rfl) | (simp [*, errW_none, errW_some] <;> rfl), by repeat (first | (with_reducible first | exact HB.out | apply below_alloc | apply pw_below_drewN | apply below_drew1) | exact HB.out)⟩
                    · replace c42 := Bool.eq_false_iff.mpr c42
                      subst c42
                      have H1 : (some false) = some r := by rw [if_neg (show ¬ (false = true) by decide)] at H; exact H
                      clear H
                      have H := H1
                      clear H1
                      obtain rfl := Option.some.inj H
                      obtain ⟨Ao46, co46, eo46⟩ := Kd.R_slice HO_11.out
                      subst eo46
                      obtain ⟨Ao47, co47, eo47⟩ := Kd.R_slice HO_14.out
                      subst eo47
                      go_wp2_with (first | ((with_reducible refine gate_callee (f := 13) rfl ?_); refine goesL_ (some 88) rfl rfl Try.func13 (by kernel_rfl) rfl #[.slice Ao46 t210.length co46, .slice Ao47 t215.length co47] rfl (by (try simp only [List.map_toArray, List.map_cons, List.map_nil]); first | done | rfl | (simp only [List.length_drop, List.length_take]; rfl)) ?_; (with_reducible refine (stoaref01_SameNumbers.calls k2 _ _ t210 _ _ t215 false _ ?side1 ?side2 ?side3 ?side4 A41.out).mono ?_); (case side1 => repeat (first | exact (Kd.R_reads' HO_11.out).2.2 | (with_reducible refine Kd.C_alloc ?_ _) | (with_reducible refine Kd.C_drewN ?_ _) | (with_reducible refine Kd.C_drew ?_))); (case side2 => exact (Kd.R_reads' HO_11.out).2.1); (case side3 => repeat (first | exact (Kd.R_reads' HO_14.out).2.2 | (with_reducible refine Kd.C_alloc ?_ _) | (with_reducible refine Kd.C_drewN ?_ _) | (with_reducible refine Kd.C_drew ?_))); (case side4 => exact (Kd.R_reads' HO_14.out).2.1); rintro e w' ⟨rfl, ⟨nd, rfl⟩⟩; refine ⟨_, rfl, ?_⟩))
                      go_ret
                      exact ⟨by first | rfl | (simp [errW_none, errW_some] <;> rfl) | (simp [*, errW_none, errW_some] <;> rfl), by repeat (first | (with_reducible first | exact HB.out | apply below_alloc | apply pw_below_drewN | apply below_drew1) | exact HB.out)⟩
      · rw [if_neg c8] at H
        exact absurd H (by simp)
    · rw [if_neg c7] at H
      exact absurd H (by simp)
  · replace c5 := Bool.eq_false_iff.mpr c5
    subst c5
    have H1 : (some false) = some r := by rw [if_neg (show ¬ (false = true) by decide)] at H; exact H
    clear H
    have H := H1
    clear H1
    obtain rfl := Option.some.inj H
    go_enter Try.func5, Try.ntmps5
    go_wp2_with (first | ((with_reducible refine gate_callee (f := 8) rfl ?_); refine goesL_ (some 18) rfl rfl Try.func8 (by kernel_rfl) rfl #[] rfl (by (try simp only [List.map_toArray, List.map_cons, List.map_nil]); first | done | rfl | (simp only [List.length_drop, List.length_take]; rfl)) ?_; (with_reducible refine (stoalaw02_alive.calls k  false _ A4.out).mono ?_); rintro e w48 ⟨rfl, hb⟩; refine ⟨_, rfl, ?_⟩; have n0_ := Aside0.mk (below_step (by repeat (first | (with_reducible first | exact HB.out | apply below_alloc | apply pw_below_drewN | apply below_drew1) | exact HB.out)) hb); clear HB; have HB := n0_; clear n0_; (try clear hb); (try clear hb2); (try clear hk); (try clear hi)))
    go_ret
    exact ⟨by first | rfl | (simp [errW_none, errW_some] <;> rfl) | (simp [*, errW_none, errW_some] <;> rfl), by repeat (first | (with_reducible first | exact HB.out | apply below_alloc | apply pw_below_drewN | apply below_drew1) | exact HB.out)⟩

/-- THE ONE PURE STATEMENT of stoalaw02_VintLists: yours. -/
def stoalaw02_VintLists.Pure : Prop := ∀ (l0 : List Int) (a1 : Int) (a2 : Int), l0.length ≤ maxLen → l0.length * 1 ≤ 140737488351232 → (∀ x ∈ l0, (Lit.int .u8 x).wf = true) → (Lit.int .i64 a1).wf = true → (Lit.int .i64 a2).wf = true → ∃ k, stoalaw02_VintLists.f k l0 a1 a2 = some true
theorem stoalaw02_VintLists.walk (P : stoalaw02_VintLists.Pure) (a0 : Option Addr) (len0 cap0 : Nat) (z0 : List Int) (a1 : Int) (a2 : Int) (w : World) (w0 : (a0 = none ∧ len0 = 0 ∧ cap0 = 0 ∧ z0 = []) ∨ ∃ x, a0 = some x ∧ len0 ≤ cap0 ∧ cap0 ≤ maxLen ∧ z0.length = cap0 ∧ (∀ i, i < z0.length → w.cell? (x.add i) = some (.int .u8 (z0.getD i 0))) ∧ ∀ n ∈ z0, (Lit.int .u8 n).wf = true) (y0 : len0 * 1 ≤ 140737488351232) (w1 : (Lit.int .i64 a1).wf = true) (w2 : (Lit.int .i64 a2).wf = true) :
    Calls Try.prog 5 #[.slice a0 len0 cap0, .int .i64 a1, .int .i64 a2] w fun e w' => e = .returned (.bool true) ∧ Below w.heap.size w w' := by
  obtain ⟨l0, rfl, hr0, hm0, hw0, hc0⟩ := ReadsInt.ofRowC w0
  obtain ⟨k, h⟩ := P l0 a1 a2 hm0 y0 hw0 w1 w2
  refine (stoalaw02_VintLists.calls k _ _ l0 a1 a2 true w (Kd.C_of_reads (d := (0 : Int)) (h1 := fun _ => rfl) hr0) hc0 h).mono ?_
  rintro e w' ⟨rfl, hd⟩
  exact ⟨rfl, hd⟩

end Go.Proofs.Ytlfjelfafcaepaa.PVintLists

-- written by this session's own printing program (myprint.sh)
import Derived.Test.YtickchfdikgniaaPBitsFoldsx0
import Derived.Test.YtickchfdikgniaaPBitsFoldsx2
import Derived.Test.YtickchfdikgniaaPBitsFoldsx3
namespace Go.Proofs.Ytickchfdikgniaa.PBitsFolds
open Go.RowKit Go.Proofs.YtickchfdikgniaaW.PrintWords Go.Proofs.YtickchfdikgniaaW.PrintLast Go.Proofs.YtickchfdikgniaaW.PrintMore
attribute [local go_sem] max2_int min2_int max_two min_two max_three min_three max_four min_four   -- for this text's walks alone
set_option linter.unusedVariables false
set_option linter.unusedSimpArgs false

/-! ### stoalaw01_BitsFolds: function 8 -/
mutual
def stoalaw01_BitsFolds.j0 : Nat → Int → Int → Int → Bool → Option (Bool)
  | 0, _, _, _, _ => none
  | k + 1, x0, x1, x3, x40 => if x40 = true then (some false) else ((bits_Flip.f x0).bind fun t171 => ((bits_Flip.f x1).bind fun t172 => (if ((decide (t171 < t172)) != (decide (x0 < x1))) = true then (stoalaw01_BitsFolds.j1 k x0 x3 true) else ((bits_Fold.f x0).bind fun t173 => ((bits_Flip.f x0).bind fun t174 => (stoalaw01_BitsFolds.j1 k x0 x3 ((Int.tmod t173 2) != (Go.bits .xor .u64 (IntKind.u64.wrap (Int.tdiv t174 9223372036854775808)) 1))))))))
def stoalaw01_BitsFolds.j1 : Nat → Int → Int → Bool → Option (Bool)
  | 0, _, _, _ => none
  | k + 1, x0, x3, x59 => if x59 = true then (some false) else ((bits_Narrow.f x0 x3).bind fun bt175 => ((stoaref01_Narrow.f k x0 x3).bind fun bt177 => (if bt175.1 = bt177.1 then (some (bt175.2 == bt177.2)) else (some false))))
end
def stoalaw01_BitsFolds.f (k : Nat) (a0 : Int) (a1 : Int) (a2 : Int) (a3 : Int) : Option (Bool) := (stoalaw01_alive.f k).bind fun t162 => (if t162 = true then ((bits_Fold.f a0).bind fun t163 => ((bits_Unfold.f t163).bind fun t164 => (if t164 = a0 then ((bits_Unfold.f a2).bind fun t165 => ((bits_Fold.f t165).bind fun t166 => (if t166 = a2 then ((bits_Flip.f a0).bind fun t167 => ((bits_Unflip.f t167).bind fun t168 => (if t168 = a0 then ((bits_Unflip.f a2).bind fun t169 => ((bits_Flip.f t169).bind fun t170 => (stoalaw01_BitsFolds.j0 k a0 a1 a3 (t170 != a2)))) else (stoalaw01_BitsFolds.j0 k a0 a1 a3 true)))) else (stoalaw01_BitsFolds.j0 k a0 a1 a3 true)))) else (stoalaw01_BitsFolds.j0 k a0 a1 a3 true)))) else (some false))
theorem stoalaw01_BitsFolds.mono_l : ∀ k, (∀ y0 y1 y2 y3, LeO (stoalaw01_BitsFolds.j0 k y0 y1 y2 y3) (stoalaw01_BitsFolds.j0 (k + 1) y0 y1 y2 y3)) ∧ (∀ y0 y1 y2, LeO (stoalaw01_BitsFolds.j1 k y0 y1 y2) (stoalaw01_BitsFolds.j1 (k + 1) y0 y1 y2))
  | 0 => ⟨fun _ _ _ _ r h => by simp [stoalaw01_BitsFolds.j0] at h, fun _ _ _ r h => by simp [stoalaw01_BitsFolds.j1] at h⟩
  | k + 1 => by
    obtain ⟨ih0, ih1⟩ := stoalaw01_BitsFolds.mono_l k
    refine ⟨?_, ?_⟩
    · intro y0 y1 y2 y3
      unfold stoalaw01_BitsFolds.j0
      repeat' first
      | (with_reducible exact ih0 _ _ _ _)
      | (with_reducible exact ih1 _ _ _)
      | (with_reducible exact stoalaw01_alive.mono _)
      | (with_reducible exact stoaref01_Narrow.mono _ _ _)
      | (with_reducible exact LeO.refl _)
      | (with_reducible exact LeO.none _)
      | (with_reducible refine LeO.ite ?_ ?_)
      | (with_reducible refine LeO.bind ?_ (fun _ => ?_))
      | exact ih0 _ _ _ _
      | exact ih1 _ _ _
      | exact stoalaw01_alive.mono _
      | exact stoaref01_Narrow.mono _ _ _
      | exact LeO.none _
      | refine LeO.ite ?_ ?_
      | refine LeO.bind ?_ (fun _ => ?_)
    · intro y0 y1 y2
      unfold stoalaw01_BitsFolds.j1
      repeat' first
      | (with_reducible exact ih0 _ _ _ _)
      | (with_reducible exact ih1 _ _ _)
      | (with_reducible exact stoalaw01_alive.mono _)
      | (with_reducible exact stoaref01_Narrow.mono _ _ _)
      | (with_reducible exact LeO.refl _)
      | (with_reducible exact LeO.none _)
      | (with_reducible refine LeO.ite ?_ ?_)
      | (with_reducible refine LeO.bind ?_ (fun _ => ?_))
      | exact ih0 _ _ _ _
      | exact ih1 _ _ _
      | exact stoalaw01_alive.mono _
      | exact stoaref01_Narrow.mono _ _ _
      | exact LeO.none _
      | refine LeO.ite ?_ ?_
      | refine LeO.bind ?_ (fun _ => ?_)
theorem stoalaw01_BitsFolds.mono : ∀ a0 a1 a2 a3 k, LeO (stoalaw01_BitsFolds.f k a0 a1 a2 a3) (stoalaw01_BitsFolds.f (k + 1) a0 a1 a2 a3) := by
  intro a0 a1 a2 a3 k
  obtain ⟨ih0, ih1⟩ := stoalaw01_BitsFolds.mono_l k
  unfold stoalaw01_BitsFolds.f
  repeat' first
      | (with_reducible exact ih0 _ _ _ _)
      | (with_reducible exact ih1 _ _ _)
      | (with_reducible exact stoalaw01_alive.mono _)
      | (with_reducible exact stoaref01_Narrow.mono _ _ _)
      | (with_reducible exact LeO.refl _)
      | (with_reducible exact LeO.none _)
      | (with_reducible refine LeO.ite ?_ ?_)
      | (with_reducible refine LeO.bind ?_ (fun _ => ?_))
      | exact ih0 _ _ _ _
      | exact ih1 _ _ _
      | exact stoalaw01_alive.mono _
      | exact stoaref01_Narrow.mono _ _ _
      | exact LeO.none _
      | refine LeO.ite ?_ ?_
      | refine LeO.bind ?_ (fun _ => ?_)
set_option maxHeartbeats 8000000 in
set_option maxRecDepth 100000 in
theorem stoalaw01_BitsFolds.calls (k : Nat) (a0 : Int) (a1 : Int) (a2 : Int) (a3 : Int) (r : Bool) (w : World) (h : stoalaw01_BitsFolds.f k a0 a1 a2 a3 = some r) :
    Calls Try.prog 8 #[.int .i64 a0, .int .i64 a1, .int .u64 a2, .int .i64 a3] w fun e w' => e = .returned (.bool r) ∧ Below w.heap.size w w' := by
  have HB := Aside0.mk (Below.refl w.heap.size w)
  have H : ((stoalaw01_alive.f k).bind fun t162 => (if t162 = true then ((bits_Fold.f a0).bind fun t163 => ((bits_Unfold.f t163).bind fun t164 => (if t164 = a0 then ((bits_Unfold.f a2).bind fun t165 => ((bits_Fold.f t165).bind fun t166 => (if t166 = a2 then ((bits_Flip.f a0).bind fun t167 => ((bits_Unflip.f t167).bind fun t168 => (if t168 = a0 then ((bits_Unflip.f a2).bind fun t169 => ((bits_Flip.f t169).bind fun t170 => (stoalaw01_BitsFolds.j0 k a0 a1 a3 (t170 != a2)))) else (stoalaw01_BitsFolds.j0 k a0 a1 a3 true)))) else (stoalaw01_BitsFolds.j0 k a0 a1 a3 true)))) else (stoalaw01_BitsFolds.j0 k a0 a1 a3 true)))) else (some false))) = some r := h
  clear h
  replace H := Option.bind_eq_some_iff.mp H
  obtain ⟨t162, A50, H⟩ := H
  replace H : (if t162 = true then ((bits_Fold.f a0).bind fun t163 => ((bits_Unfold.f t163).bind fun t164 => (if t164 = a0 then ((bits_Unfold.f a2).bind fun t165 => ((bits_Fold.f t165).bind fun t166 => (if t166 = a2 then ((bits_Flip.f a0).bind fun t167 => ((bits_Unflip.f t167).bind fun t168 => (if t168 = a0 then ((bits_Unflip.f a2).bind fun t169 => ((bits_Flip.f t169).bind fun t170 => (stoalaw01_BitsFolds.j0 k a0 a1 a3 (t170 != a2)))) else (stoalaw01_BitsFolds.j0 k a0 a1 a3 true)))) else (stoalaw01_BitsFolds.j0 k a0 a1 a3 true)))) else (stoalaw01_BitsFolds.j0 k a0 a1 a3 true)))) else (some false)) = some r := H
  have A5 := Aside0.mk A50
  clear A50
  by_cases c6 : t162 = true
  · subst c6
    have H1 : ((bits_Fold.f a0).bind fun t163 => ((bits_Unfold.f t163).bind fun t164 => (if t164 = a0 then ((bits_Unfold.f a2).bind fun t165 => ((bits_Fold.f t165).bind fun t166 => (if t166 = a2 then ((bits_Flip.f a0).bind fun t167 => ((bits_Unflip.f t167).bind fun t168 => (if t168 = a0 then ((bits_Unflip.f a2).bind fun t169 => ((bits_Flip.f t169).bind fun t170 => (stoalaw01_BitsFolds.j0 k a0 a1 a3 (t170 != a2)))) else (stoalaw01_BitsFolds.j0 k a0 a1 a3 true)))) else (stoalaw01_BitsFolds.j0 k a0 a1 a3 true)))) else (stoalaw01_BitsFolds.j0 k a0 a1 a3 true)))) = some r := by rw [if_pos rfl] at H; exact H
    clear H
    have H := H1
    clear H1
    have HC7 := Aside0.mk H
    clear H
    go_enter Try.func8, Try.ntmps8
    go_upto_region 3 with (first | ((with_reducible refine gate_callee (f := 9) rfl ?_); refine goesL_ (some 13) rfl rfl Try.func9 (by kernel_rfl) rfl #[] rfl (by (try simp only [List.map_toArray, List.map_cons, List.map_nil]); first | done | rfl | (simp only [List.length_drop, List.length_take]; rfl)) ?_; (with_reducible refine (stoalaw01_alive.calls k  true _ A5.out).mono ?_); rintro e w8 ⟨rfl, hb⟩; refine ⟨_, rfl, ?_⟩; have n0_ := Aside0.mk (below_step (by repeat (first | (with_reducible first | exact HB.out | apply below_alloc | apply pw_below_drewN | apply below_drew1) | exact HB.out)) hb); clear HB; have HB := n0_; clear n0_; (try clear hb); (try clear hb2); (try clear hk); (try clear hi)))
    (try simp only [Act.put, List.setIfInBounds_toArray, List.set_cons_zero, List.set_cons_succ])
    go_cut [40] (fun v40 wc => ∃ (kq : Nat) (x40_6 : Bool), v40 = .bool x40_6 ∧ Aside0 (stoalaw01_BitsFolds.j0 kq a0 a1 a3 x40_6 = some r) ∧ Aside0 (kq ≤ k) ∧ Aside0 (Below w.heap.size w wc))
    case first =>
      have H := HC7.out
      clear HC7
      replace H := Option.bind_eq_some_iff.mp H
      obtain ⟨t163, A90, H⟩ := H
      replace H : ((bits_Unfold.f t163).bind fun t164 => (if t164 = a0 then ((bits_Unfold.f a2).bind fun t165 => ((bits_Fold.f t165).bind fun t166 => (if t166 = a2 then ((bits_Flip.f a0).bind fun t167 => ((bits_Unflip.f t167).bind fun t168 => (if t168 = a0 then ((bits_Unflip.f a2).bind fun t169 => ((bits_Flip.f t169).bind fun t170 => (stoalaw01_BitsFolds.j0 k a0 a1 a3 (t170 != a2)))) else (stoalaw01_BitsFolds.j0 k a0 a1 a3 true)))) else (stoalaw01_BitsFolds.j0 k a0 a1 a3 true)))) else (stoalaw01_BitsFolds.j0 k a0 a1 a3 true))) = some r := H
      have A9 := Aside0.mk A90
      clear A90
      replace H := Option.bind_eq_some_iff.mp H
      obtain ⟨t164, A100, H⟩ := H
      replace H : (if t164 = a0 then ((bits_Unfold.f a2).bind fun t165 => ((bits_Fold.f t165).bind fun t166 => (if t166 = a2 then ((bits_Flip.f a0).bind fun t167 => ((bits_Unflip.f t167).bind fun t168 => (if t168 = a0 then ((bits_Unflip.f a2).bind fun t169 => ((bits_Flip.f t169).bind fun t170 => (stoalaw01_BitsFolds.j0 k a0 a1 a3 (t170 != a2)))) else (stoalaw01_BitsFolds.j0 k a0 a1 a3 true)))) else (stoalaw01_BitsFolds.j0 k a0 a1 a3 true)))) else (stoalaw01_BitsFolds.j0 k a0 a1 a3 true)) = some r := H
      have A10 := Aside0.mk A100
      clear A100
      by_cases c11 : t164 = a0
      · rw [if_pos c11] at H
        have c11b0 : (t164 == a0) = true := beq_iff_eq.mpr c11
        have c11b1 : (t164 != a0) = false := bne_eq_false_iff_eq.mpr c11
        clear c11
        (first | rw [c11b0] | (simp only [i64_w, i32_w]; rw [c11b0]) | skip)
        replace H := Option.bind_eq_some_iff.mp H
        obtain ⟨t165, A120, H⟩ := H
        replace H : ((bits_Fold.f t165).bind fun t166 => (if t166 = a2 then ((bits_Flip.f a0).bind fun t167 => ((bits_Unflip.f t167).bind fun t168 => (if t168 = a0 then ((bits_Unflip.f a2).bind fun t169 => ((bits_Flip.f t169).bind fun t170 => (stoalaw01_BitsFolds.j0 k a0 a1 a3 (t170 != a2)))) else (stoalaw01_BitsFolds.j0 k a0 a1 a3 true)))) else (stoalaw01_BitsFolds.j0 k a0 a1 a3 true))) = some r := H
        have A12 := Aside0.mk A120
        clear A120
        replace H := Option.bind_eq_some_iff.mp H
        obtain ⟨t166, A130, H⟩ := H
        replace H : (if t166 = a2 then ((bits_Flip.f a0).bind fun t167 => ((bits_Unflip.f t167).bind fun t168 => (if t168 = a0 then ((bits_Unflip.f a2).bind fun t169 => ((bits_Flip.f t169).bind fun t170 => (stoalaw01_BitsFolds.j0 k a0 a1 a3 (t170 != a2)))) else (stoalaw01_BitsFolds.j0 k a0 a1 a3 true)))) else (stoalaw01_BitsFolds.j0 k a0 a1 a3 true)) = some r := H
        have A13 := Aside0.mk A130
        clear A130
        by_cases c14 : t166 = a2
        · rw [if_pos c14] at H
          have c14b0 : (t166 == a2) = true := beq_iff_eq.mpr c14
          have c14b1 : (t166 != a2) = false := bne_eq_false_iff_eq.mpr c14
          clear c14
          replace H := Option.bind_eq_some_iff.mp H
          obtain ⟨t167, A150, H⟩ := H
          replace H : ((bits_Unflip.f t167).bind fun t168 => (if t168 = a0 then ((bits_Unflip.f a2).bind fun t169 => ((bits_Flip.f t169).bind fun t170 => (stoalaw01_BitsFolds.j0 k a0 a1 a3 (t170 != a2)))) else (stoalaw01_BitsFolds.j0 k a0 a1 a3 true))) = some r := H
          have A15 := Aside0.mk A150
          clear A150
          replace H := Option.bind_eq_some_iff.mp H
          obtain ⟨t168, A160, H⟩ := H
          replace H : (if t168 = a0 then ((bits_Unflip.f a2).bind fun t169 => ((bits_Flip.f t169).bind fun t170 => (stoalaw01_BitsFolds.j0 k a0 a1 a3 (t170 != a2)))) else (stoalaw01_BitsFolds.j0 k a0 a1 a3 true)) = some r := H
          have A16 := Aside0.mk A160
          clear A160
          by_cases c17 : t168 = a0
          · rw [if_pos c17] at H
            have c17b0 : (t168 == a0) = true := beq_iff_eq.mpr c17
            have c17b1 : (t168 != a0) = false := bne_eq_false_iff_eq.mpr c17
            clear c17
            replace H := Option.bind_eq_some_iff.mp H
            obtain ⟨t169, A180, H⟩ := H
            replace H : ((bits_Flip.f t169).bind fun t170 => (stoalaw01_BitsFolds.j0 k a0 a1 a3 (t170 != a2))) = some r := H
            have A18 := Aside0.mk A180
            clear A180
            replace H := Option.bind_eq_some_iff.mp H
            obtain ⟨t170, A190, H⟩ := H
            replace H : (stoalaw01_BitsFolds.j0 k a0 a1 a3 (t170 != a2)) = some r := H
            have A19 := Aside0.mk A190
            clear A190
            have H' := Aside0.mk H
            clear H
            go_wp2_with (first | ((with_reducible refine gate_callee (f := 27) rfl ?_); refine goesL_ (some 16) rfl rfl Try.func27 (by kernel_rfl) rfl #[.int .i64 a0] rfl (by (try simp only [List.map_toArray, List.map_cons, List.map_nil]); first | done | rfl | (simp only [List.length_drop, List.length_take]; rfl)) ?_; (with_reducible refine (bits_Fold.calls a0 t163 _ A9.out).mono ?_); rintro e w' ⟨rfl, ⟨nd, rfl⟩⟩; refine ⟨_, rfl, ?_⟩) | ((with_reducible refine gate_callee (f := 26) rfl ?_); refine goesL_ (some 17) rfl rfl Try.func26 (by kernel_rfl) rfl #[.int .u64 t163] rfl (by (try simp only [List.map_toArray, List.map_cons, List.map_nil]); first | done | rfl | (simp only [List.length_drop, List.length_take]; rfl)) ?_; (with_reducible refine (bits_Unfold.calls t163 t164 _ A10.out).mono ?_); rintro e w' ⟨rfl, ⟨nd, rfl⟩⟩; refine ⟨_, rfl, ?_⟩) | (go_at_call 26; (with_reducible refine (bits_Unfold.calls a2 t165 _ A12.out).mono ?_); rintro e w' ⟨rfl, ⟨nd, rfl⟩⟩) | (go_at_call 27; (with_reducible refine (bits_Fold.calls t165 t166 _ A13.out).mono ?_); rintro e w' ⟨rfl, ⟨nd, rfl⟩⟩) | (go_at_call 29; (with_reducible refine (bits_Flip.calls a0 t167 _ A15.out).mono ?_); rintro e w' ⟨rfl, ⟨nd, rfl⟩⟩) | (go_at_call 28; (with_reducible refine (bits_Unflip.calls t167 t168 _ A16.out).mono ?_); rintro e w' ⟨rfl, ⟨nd, rfl⟩⟩) | (go_at_call 28; (with_reducible refine (bits_Unflip.calls a2 t169 _ A18.out).mono ?_); rintro e w' ⟨rfl, ⟨nd, rfl⟩⟩) | (go_at_call 29; (with_reducible refine (bits_Flip.calls t169 t170 _ A19.out).mono ?_); rintro e w' ⟨rfl, ⟨nd, rfl⟩⟩))
            go_meet
            case rel => exact ⟨_, ((t170 != a2)), (by first | rfl | (simp; done) | (simp [*]; done)), H', ⟨by first | omega | exact Nat.le_refl _⟩, ⟨by repeat (first | (with_reducible first | exact HB.out | apply below_alloc | apply pw_below_drewN | apply below_drew1) | exact HB.out)⟩⟩
          · rw [if_neg c17] at H
            have c17b0 : (t168 == a0) = false := beq_eq_false_iff_ne.mpr c17
            have c17b1 : (t168 != a0) = true := bne_iff_ne.mpr c17
            have H' := Aside0.mk H
            clear H
            go_wp2_with (first | ((with_reducible refine gate_callee (f := 27) rfl ?_); refine goesL_ (some 16) rfl rfl Try.func27 (by kernel_rfl) rfl #[.int .i64 a0] rfl (by (try simp only [List.map_toArray, List.map_cons, List.map_nil]); first | done | rfl | (simp only [List.length_drop, List.length_take]; rfl)) ?_; (with_reducible refine (bits_Fold.calls a0 t163 _ A9.out).mono ?_); rintro e w' ⟨rfl, ⟨nd, rfl⟩⟩; refine ⟨_, rfl, ?_⟩) | ((with_reducible refine gate_callee (f := 26) rfl ?_); refine goesL_ (some 17) rfl rfl Try.func26 (by kernel_rfl) rfl #[.int .u64 t163] rfl (by (try simp only [List.map_toArray, List.map_cons, List.map_nil]); first | done | rfl | (simp only [List.length_drop, List.length_take]; rfl)) ?_; (with_reducible refine (bits_Unfold.calls t163 t164 _ A10.out).mono ?_); rintro e w' ⟨rfl, ⟨nd, rfl⟩⟩; refine ⟨_, rfl, ?_⟩) | (go_at_call 26; (with_reducible refine (bits_Unfold.calls a2 t165 _ A12.out).mono ?_); rintro e w' ⟨rfl, ⟨nd, rfl⟩⟩) | (go_at_call 27; (with_reducible refine (bits_Fold.calls t165 t166 _ A13.out).mono ?_); rintro e w' ⟨rfl, ⟨nd, rfl⟩⟩) | (go_at_call 29; (with_reducible refine (bits_Flip.calls a0 t167 _ A15.out).mono ?_); rintro e w' ⟨rfl, ⟨nd, rfl⟩⟩) | (go_at_call 28; (with_reducible refine (bits_Unflip.calls t167 t168 _ A16.out).mono ?_); rintro e w' ⟨rfl, ⟨nd, rfl⟩⟩))
            go_meet
            case rel => exact ⟨_, (true), (by first | rfl | (simp; done) | (simp [*]; done)), H', ⟨by first | omega | exact Nat.le_refl _⟩, ⟨by repeat (first | (with_reducible first | exact HB.out | apply below_alloc | apply pw_below_drewN | apply below_drew1) | exact HB.out)⟩⟩
        · rw [if_neg c14] at H
          have c14b0 : (t166 == a2) = false := beq_eq_false_iff_ne.mpr c14
          have c14b1 : (t166 != a2) = true := bne_iff_ne.mpr c14
          have H' := Aside0.mk H
          clear H
          go_wp2_with (first | ((with_reducible refine gate_callee (f := 27) rfl ?_); refine goesL_ (some 16) rfl rfl Try.func27 (by kernel_rfl) rfl #[.int .i64 a0] rfl (by (try simp only [List.map_toArray, List.map_cons, List.map_nil]); first | done | rfl | (simp only [List.length_drop, List.length_take]; rfl)) ?_; (with_reducible refine (bits_Fold.calls a0 t163 _ A9.out).mono ?_); rintro e w' ⟨rfl, ⟨nd, rfl⟩⟩; refine ⟨_, rfl, ?_⟩) | ((with_reducible refine gate_callee (f := 26) rfl ?_); refine goesL_ (some 17) rfl rfl Try.func26 (by kernel_rfl) rfl #[.int .u64 t163] rfl (by (try simp only [List.map_toArray, List.map_cons, List.map_nil]); first | done | rfl | (simp only [List.length_drop, List.length_take]; rfl)) ?_; (with_reducible refine (bits_Unfold.calls t163 t164 _ A10.out).mono ?_); rintro e w' ⟨rfl, ⟨nd, rfl⟩⟩; refine ⟨_, rfl, ?_⟩) | (go_at_call 26; (with_reducible refine (bits_Unfold.calls a2 t165 _ A12.out).mono ?_); rintro e w' ⟨rfl, ⟨nd, rfl⟩⟩) | (go_at_call 27; (with_reducible refine (bits_Fold.calls t165 t166 _ A13.out).mono ?_); rintro e w' ⟨rfl, ⟨nd, rfl⟩⟩))
          go_meet
          case rel => exact ⟨_, (true), (by first | rfl | (simp; done) | (simp [*]; done)), H', ⟨by first | omega | exact Nat.le_refl _⟩, ⟨by repeat (first | (with_reducible first | exact HB.out | apply below_alloc | apply pw_below_drewN | apply below_drew1) | exact HB.out)⟩⟩
      · rw [if_neg c11] at H
        have c11b0 : (t164 == a0) = false := beq_eq_false_iff_ne.mpr c11
        have c11b1 : (t164 != a0) = true := bne_iff_ne.mpr c11
        (first | rw [c11b0] | (simp only [i64_w, i32_w]; rw [c11b0]) | skip)
        have H' := Aside0.mk H
        clear H
        go_wp2_with (first | ((with_reducible refine gate_callee (f := 27) rfl ?_); refine goesL_ (some 16) rfl rfl Try.func27 (by kernel_rfl) rfl #[.int .i64 a0] rfl (by (try simp only [List.map_toArray, List.map_cons, List.map_nil]); first | done | rfl | (simp only [List.length_drop, List.length_take]; rfl)) ?_; (with_reducible refine (bits_Fold.calls a0 t163 _ A9.out).mono ?_); rintro e w' ⟨rfl, ⟨nd, rfl⟩⟩; refine ⟨_, rfl, ?_⟩) | ((with_reducible refine gate_callee (f := 26) rfl ?_); refine goesL_ (some 17) rfl rfl Try.func26 (by kernel_rfl) rfl #[.int .u64 t163] rfl (by (try simp only [List.map_toArray, List.map_cons, List.map_nil]); first | done | rfl | (simp only [List.length_drop, List.length_take]; rfl)) ?_; (with_reducible refine (bits_Unfold.calls t163 t164 _ A10.out).mono ?_); rintro e w' ⟨rfl, ⟨nd, rfl⟩⟩; refine ⟨_, rfl, ?_⟩))
        go_meet
        case rel => exact ⟨_, (true), (by first | rfl | (simp; done) | (simp [*]; done)), H', ⟨by first | omega | exact Nat.le_refl _⟩, ⟨by repeat (first | (with_reducible first | exact HB.out | apply below_alloc | apply pw_below_drewN | apply below_drew1) | exact HB.out)⟩⟩
    case rest =>
      clear HC7
      try clear c1
      try clear c2
      try clear p2
      try clear c6
      try clear c8
      try clear c9
      try clear c11
      try clear c11b0
      try clear c11b1
      try clear c14
      try clear c14b0
      try clear c14b1
      try clear c17
      try clear c17b0
      try clear c17b1
      obtain ⟨kq, x40_6, rfl, HA, HJ6, HB⟩ := hcut
      cases kq with
      | zero => exact absurd HA.out (by simp [stoalaw01_BitsFolds.j0])
      | succ kj6 =>
        have H := HA.out
        clear HA
        simp only [stoalaw01_BitsFolds.j0] at H
        by_cases c20 : x40_6 = true
        · subst c20
          have H1 : (some false) = some r := by rw [if_pos rfl] at H; exact H
          clear H
          have H := H1
          clear H1
          obtain rfl := Option.some.inj H
          go_wp2
          go_ret
          exact ⟨by first | rfl | (simp [errW_none, errW_some] <;> rfl) | (simp [*, errW_none, errW_some] <;> rfl), by repeat (first | (with_reducible first | exact HB.out | apply below_alloc | apply pw_below_drewN | apply below_drew1) | exact HB.out)⟩
        · replace c20 := Bool.eq_false_iff.mpr c20
          subst c20
          have H1 : ((bits_Flip.f a0).bind fun t171 => ((bits_Flip.f a1).bind fun t172 => (if ((decide (t171 < t172)) != (decide (a0 < a1))) = true then (stoalaw01_BitsFolds.j1 kj6 a0 a3 true) else ((bits_Fold.f a0).bind fun t173 => ((bits_Flip.f a0).bind fun t174 => (stoalaw01_BitsFolds.j1 kj6 a0 a3 ((Int.tmod t173 2) != (Go.bits .xor .u64 (IntKind.u64.wrap (Int.tdiv t174 9223372036854775808)) 1)))))))) = some r := by rw [if_neg (show ¬ (false = true) by decide)] at H; exact H
          clear H
          have H := H1
          clear H1
          have HC21 := Aside0.mk H
          clear H
          go_upto_region 5 with (fail)
          go_cut [59] (fun v59 wc => ∃ (kq : Nat) (x59_20 : Bool), v59 = .bool x59_20 ∧ Aside0 (stoalaw01_BitsFolds.j1 kq a0 a3 x59_20 = some r) ∧ Aside0 (kq ≤ kj6) ∧ Aside0 (Below w.heap.size w wc))
          case first =>
            have H := HC21.out
            clear HC21
            replace H := Option.bind_eq_some_iff.mp H
            obtain ⟨t171, A220, H⟩ := H
            replace H : ((bits_Flip.f a1).bind fun t172 => (if ((decide (t171 < t172)) != (decide (a0 < a1))) = true then (stoalaw01_BitsFolds.j1 kj6 a0 a3 true) else ((bits_Fold.f a0).bind fun t173 => ((bits_Flip.f a0).bind fun t174 => (stoalaw01_BitsFolds.j1 kj6 a0 a3 ((Int.tmod t173 2) != (Go.bits .xor .u64 (IntKind.u64.wrap (Int.tdiv t174 9223372036854775808)) 1))))))) = some r := H
            have A22 := Aside0.mk A220
            clear A220
            replace H := Option.bind_eq_some_iff.mp H
            obtain ⟨t172, A230, H⟩ := H
            replace H : (if ((decide (t171 < t172)) != (decide (a0 < a1))) = true then (stoalaw01_BitsFolds.j1 kj6 a0 a3 true) else ((bits_Fold.f a0).bind fun t173 => ((bits_Flip.f a0).bind fun t174 => (stoalaw01_BitsFolds.j1 kj6 a0 a3 ((Int.tmod t173 2) != (Go.bits .xor .u64 (IntKind.u64.wrap (Int.tdiv t174 9223372036854775808)) 1)))))) = some r := H
            have A23 := Aside0.mk A230
            clear A230
            by_cases c24 : ((decide (t171 < t172)) != (decide (a0 < a1))) = true
            · rw [if_pos c24] at H
              have c24b0 : ((decide (t171 < t172)) != (decide (a0 < a1))) = true := c24
              (try (have c24b1 : decide ((decide (t171 < t172)) = (decide (a0 < a1))) = false := by simpa using c24))
              (try (have c24b2 : ((decide (t171 < t172)) == (decide (a0 < a1))) = false := by simpa using c24))
              (try (have c24b3 : ¬ ((decide (t171 < t172)) = (decide (a0 < a1))) := by simpa using c24))
              clear c24
              (first | rw [c24b0] | (simp only [i64_w, i32_w]; rw [c24b0]) | skip)
              have H' := Aside0.mk H
              clear H
              go_wp2_with (first | ((with_reducible refine gate_callee (f := 29) rfl ?_); refine goesL_ (some 42) rfl rfl Try.func29 (by kernel_rfl) rfl #[.int .i64 a0] rfl (by (try simp only [List.map_toArray, List.map_cons, List.map_nil]); first | done | rfl | (simp only [List.length_drop, List.length_take]; rfl)) ?_; (with_reducible refine (bits_Flip.calls a0 t171 _ A22.out).mono ?_); rintro e w' ⟨rfl, ⟨nd, rfl⟩⟩; refine ⟨_, rfl, ?_⟩) | ((with_reducible refine gate_callee (f := 29) rfl ?_); refine goesL_ (some 44) rfl rfl Try.func29 (by kernel_rfl) rfl #[.int .i64 a1] rfl (by (try simp only [List.map_toArray, List.map_cons, List.map_nil]); first | done | rfl | (simp only [List.length_drop, List.length_take]; rfl)) ?_; (with_reducible refine (bits_Flip.calls a1 t172 _ A23.out).mono ?_); rintro e w' ⟨rfl, ⟨nd, rfl⟩⟩; refine ⟨_, rfl, ?_⟩))
              go_meet
              case rel => exact ⟨_, (true), (by first | rfl | (simp; done) | (simp [*]; done)), H', ⟨by have := HJ6.out; first | omega | exact Nat.le_refl _⟩, ⟨by repeat (first | (with_reducible first | exact HB.out | apply below_alloc | apply pw_below_drewN | apply below_drew1) | exact HB.out)⟩⟩
            · rw [if_neg c24] at H
              have c24b0 : ((decide (t171 < t172)) != (decide (a0 < a1))) = false := by simpa using c24
              (try (have c24b1 : decide ((decide (t171 < t172)) = (decide (a0 < a1))) = true := by simpa using c24))
              (try (have c24b2 : ((decide (t171 < t172)) == (decide (a0 < a1))) = true := by simpa using c24))
              clear c24
              (first | rw [c24b0] | (simp only [i64_w, i32_w]; rw [c24b0]) | skip)
              replace H := Option.bind_eq_some_iff.mp H
              obtain ⟨t173, A250, H⟩ := H
              replace H : ((bits_Flip.f a0).bind fun t174 => (stoalaw01_BitsFolds.j1 kj6 a0 a3 ((Int.tmod t173 2) != (Go.bits .xor .u64 (IntKind.u64.wrap (Int.tdiv t174 9223372036854775808)) 1)))) = some r := H
              have A25 := Aside0.mk A250
              clear A250
              replace H := Option.bind_eq_some_iff.mp H
              obtain ⟨t174, A260, H⟩ := H
              replace H : (stoalaw01_BitsFolds.j1 kj6 a0 a3 ((Int.tmod t173 2) != (Go.bits .xor .u64 (IntKind.u64.wrap (Int.tdiv t174 9223372036854775808)) 1))) = some r := H
              have A26 := Aside0.mk A260
              have EA26 := Option.some.inj (A260.symm.trans A22.out)
              clear A260
              have H' := Aside0.mk H
              clear H
              go_wp2_with (first | ((with_reducible refine gate_callee (f := 29) rfl ?_); refine goesL_ (some 42) rfl rfl Try.func29 (by kernel_rfl) rfl #[.int .i64 a0] rfl (by (try simp only [List.map_toArray, List.map_cons, List.map_nil]); first | done | rfl | (simp only [List.length_drop, List.length_take]; rfl)) ?_; (with_reducible refine (bits_Flip.calls a0 t171 _ A22.out).mono ?_); rintro e w' ⟨rfl, ⟨nd, rfl⟩⟩; refine ⟨_, rfl, ?_⟩) | ((with_reducible refine gate_callee (f := 29) rfl ?_); refine goesL_ (some 44) rfl rfl Try.func29 (by kernel_rfl) rfl #[.int .i64 a1] rfl (by (try simp only [List.map_toArray, List.map_cons, List.map_nil]); first | done | rfl | (simp only [List.length_drop, List.length_take]; rfl)) ?_; (with_reducible refine (bits_Flip.calls a1 t172 _ A23.out).mono ?_); rintro e w' ⟨rfl, ⟨nd, rfl⟩⟩; refine ⟨_, rfl, ?_⟩) | (go_at_call 27; (with_reducible refine (bits_Fold.calls a0 t173 _ A25.out).mono ?_); rintro e w' ⟨rfl, ⟨nd, rfl⟩⟩) | (go_at_call 29; (with_reducible refine (bits_Flip.calls a0 t174 _ A26.out).mono ?_); rintro e w' ⟨rfl, ⟨nd, rfl⟩⟩))
              go_meet
              case rel => exact ⟨_, (((Int.tmod t173 2) != (Go.bits .xor .u64 (IntKind.u64.wrap (Int.tdiv t174 9223372036854775808)) 1))), (by first | rfl | (simp; done) | (simp [*]; done)), H', ⟨by have := HJ6.out; first | omega | exact Nat.le_refl _⟩, ⟨by repeat (first | (with_reducible first | exact HB.out | apply below_alloc | apply pw_below_drewN | apply below_drew1) | exact HB.out)⟩⟩
          case rest =>
            clear HC21
            try clear c1
            try clear c2
            try clear p2
            try clear c6
            try clear c8
            try clear c9
            try clear c11
            try clear c11b0
            try clear c11b1
            try clear c14
            try clear c14b0
            try clear c14b1
            try clear c17
            try clear c17b0
            try clear c17b1
            try clear c20
            try clear c24
            try clear c24b0
            try clear c24b1
            try clear c24b2
            try clear c26
            try clear p2
            obtain ⟨kq, x59_20, rfl, HA, HJ20, HB⟩ := hcut
            cases kq with
            | zero => exact absurd HA.out (by simp [stoalaw01_BitsFolds.j1])
            | succ kj20 =>
              have H := HA.out
              clear HA
              simp only [stoalaw01_BitsFolds.j1] at H
              by_cases c27 : x59_20 = true
              · subst c27
                have H1 : (some false) = some r := by rw [if_pos rfl] at H; exact H
                clear H
                have H := H1
                clear H1
                obtain rfl := Option.some.inj H
                go_wp2
                go_ret
                exact ⟨by first | rfl | (simp [errW_none, errW_some] <;> rfl) | (simp [*, errW_none, errW_some] <;> rfl), by repeat (first | (with_reducible first | exact HB.out | apply below_alloc | apply pw_below_drewN | apply below_drew1) | exact HB.out)⟩
              · replace c27 := Bool.eq_false_iff.mpr c27
                subst c27
                have H1 : ((bits_Narrow.f a0 a3).bind fun bt175 => ((stoaref01_Narrow.f kj20 a0 a3).bind fun bt177 => (if bt175.1 = bt177.1 then (some (bt175.2 == bt177.2)) else (some false)))) = some r := by rw [if_neg (show ¬ (false = true) by decide)] at H; exact H
                clear H
                have H := H1
                clear H1
                replace H := Option.bind_eq_some_iff.mp H
                obtain ⟨⟨t175, t176⟩, A280, H⟩ := H
                replace H : ((stoaref01_Narrow.f kj20 a0 a3).bind fun bt177 => (if t175 = bt177.1 then (some (t176 == bt177.2)) else (some false))) = some r := H
                have A28 := Aside0.mk A280
                clear A280
                replace H := Option.bind_eq_some_iff.mp H
                obtain ⟨⟨t177, t178⟩, A290, H⟩ := H
                replace H : (if t175 = t177 then (some (t176 == t178)) else (some false)) = some r := H
                have A29 := Aside0.mk A290
                clear A290
                by_cases c30 : t175 = t177
                · rw [if_pos c30] at H
                  have c30b0 : (t175 == t177) = true := beq_iff_eq.mpr c30
                  have c30b1 : (t175 != t177) = false := bne_eq_false_iff_eq.mpr c30
                  clear c30
                  obtain rfl := Option.some.inj H
                  go_wp2_with (first | ((with_reducible refine gate_callee (f := 30) rfl ?_); refine goesL_ (some 63) rfl rfl Try.func30 (by kernel_rfl) rfl #[.int .i64 a0, .int .i64 a3] rfl (by (try simp only [List.map_toArray, List.map_cons, List.map_nil]); first | done | rfl | (simp only [List.length_drop, List.length_take]; rfl)) ?_; (with_reducible refine (bits_Narrow.calls a0 a3 t175 t176 _ A28.out).mono ?_); rintro e w' ⟨rfl, ⟨nd, rfl⟩⟩; refine ⟨_, rfl, ?_⟩) | ((with_reducible refine gate_callee (f := 31) rfl ?_); refine goesL_ (some 69) rfl rfl Try.func31 (by kernel_rfl) rfl #[.int .i64 a0, .int .i64 a3] rfl (by (try simp only [List.map_toArray, List.map_cons, List.map_nil]); first | done | rfl | (simp only [List.length_drop, List.length_take]; rfl)) ?_; (with_reducible refine (stoaref01_Narrow.calls kj20 a0 a3 t177 t178 _ A29.out).mono ?_); rintro e w' ⟨rfl, ⟨nd, rfl⟩⟩; refine ⟨_, rfl, ?_⟩))
                  go_ret
                  exact ⟨by first | rfl | (simp [errW_none, errW_some] <;> rfl) | (simp [*, errW_none, errW_some] <;> rfl), by repeat (first | (with_reducible first | exact HB.out | apply below_alloc | apply pw_below_drewN | apply below_drew1) | exact HB.out)⟩
                · rw [if_neg c30] at H
                  have c30b0 : (t175 == t177) = false := beq_eq_false_iff_ne.mpr c30
                  have c30b1 : (t175 != t177) = true := bne_iff_ne.mpr c30
                  obtain rfl := Option.some.inj H
                  go_wp2_with (first | ((with_reducible refine gate_callee (f := 30) rfl ?_); refine goesL_ (some 63) rfl rfl Try.func30 (by kernel_rfl) rfl #[.int .i64 a0, .int .i64 a3] rfl (by (try simp only [List.map_toArray, List.map_cons, List.map_nil]); first | done | rfl | (simp only [List.length_drop, List.length_take]; rfl)) ?_; (with_reducible refine (bits_Narrow.calls a0 a3 t175 t176 _ A28.out).mono ?_); rintro e w' ⟨rfl, ⟨nd, rfl⟩⟩; refine ⟨_, rfl, ?_⟩) | ((with_reducible refine gate_callee (f := 31) rfl ?_); refine goesL_ (some 69) rfl rfl Try.func31 (by kernel_rfl) rfl #[.int .i64 a0, .int .i64 a3] rfl (by (try simp only [List.map_toArray, List.map_cons, List.map_nil]); first | done | rfl | (simp only [List.length_drop, List.length_take]; rfl)) ?_; (with_reducible refine (stoaref01_Narrow.calls kj20 a0 a3 t177 t178 _ A29.out).mono ?_); rintro e w' ⟨rfl, ⟨nd, rfl⟩⟩; refine ⟨_, rfl, ?_⟩))
                  go_ret
                  exact ⟨by first | rfl | (simp [errW_none, errW_some] <;> rfl) | (simp [*, errW_none, errW_some] <;> rfl), by repeat (first | (with_reducible first | exact HB.out | apply below_alloc | apply pw_below_drewN | apply below_drew1) | exact HB.out)⟩
  · replace c6 := Bool.eq_false_iff.mpr c6
    subst c6
    have H1 : (some false) = some r := by rw [if_neg (show ¬ (false = true) by decide)] at H; exact H
    clear H
    have H := H1
    clear H1
    obtain rfl := Option.some.inj H
    go_enter Try.func8, Try.ntmps8
    go_wp2_with (first | ((with_reducible refine gate_callee (f := 9) rfl ?_); refine goesL_ (some 13) rfl rfl Try.func9 (by kernel_rfl) rfl #[] rfl (by (try simp only [List.map_toArray, List.map_cons, List.map_nil]); first | done | rfl | (simp only [List.length_drop, List.length_take]; rfl)) ?_; (with_reducible refine (stoalaw01_alive.calls k  false _ A5.out).mono ?_); rintro e w31 ⟨rfl, hb⟩; refine ⟨_, rfl, ?_⟩; have n0_ := Aside0.mk (below_step (by repeat (first | (with_reducible first | exact HB.out | apply below_alloc | apply pw_below_drewN | apply below_drew1) | exact HB.out)) hb); clear HB; have HB := n0_; clear n0_; (try clear hb); (try clear hb2); (try clear hk); (try clear hi)))
    go_ret
    exact ⟨by first | rfl | (simp [errW_none, errW_some] <;> rfl) | (simp [*, errW_none, errW_some] <;> rfl), by repeat (first | (with_reducible first | exact HB.out | apply below_alloc | apply pw_below_drewN | apply below_drew1) | exact HB.out)⟩

/-- THE ONE PURE STATEMENT of stoalaw01_BitsFolds: yours. -/
def stoalaw01_BitsFolds.Pure : Prop := ∀ (a0 : Int) (a1 : Int) (a2 : Int) (a3 : Int), (Lit.int .i64 a0).wf = true → (Lit.int .i64 a1).wf = true → (Lit.int .u64 a2).wf = true → (Lit.int .i64 a3).wf = true → ∃ k, stoalaw01_BitsFolds.f k a0 a1 a2 a3 = some true
theorem stoalaw01_BitsFolds.walk (P : stoalaw01_BitsFolds.Pure) (a0 : Int) (a1 : Int) (a2 : Int) (a3 : Int) (w : World) (w0 : (Lit.int .i64 a0).wf = true) (w1 : (Lit.int .i64 a1).wf = true) (w2 : (Lit.int .u64 a2).wf = true) (w3 : (Lit.int .i64 a3).wf = true) :
    Calls Try.prog 8 #[.int .i64 a0, .int .i64 a1, .int .u64 a2, .int .i64 a3] w fun e w' => e = .returned (.bool true) ∧ Below w.heap.size w w' := by
  obtain ⟨k, h⟩ := P a0 a1 a2 a3 w0 w1 w2 w3
  refine (stoalaw01_BitsFolds.calls k a0 a1 a2 a3 true w h).mono ?_
  rintro e w' ⟨rfl, hd⟩
  exact ⟨rfl, hd⟩

end Go.Proofs.Ytickchfdikgniaa.PBitsFolds

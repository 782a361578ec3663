-- written by this session's own printing program (myprint.sh)
import Derived.Test.YtickchfdikgniaaPBitsPacksx0
import Derived.Test.YtickchfdikgniaaPBitsPacksx1
import Derived.Test.YtickchfdikgniaaPBitsPacksx2
namespace Go.Proofs.Ytickchfdikgniaa.PBitsPacks
open Go.RowKit Go.Proofs.YtickchfdikgniaaW.PrintWords Go.Proofs.YtickchfdikgniaaW.PrintLast Go.Proofs.YtickchfdikgniaaW.PrintMore
attribute [local go_sem] max2_int min2_int max_two min_two max_three min_three max_four min_four   -- for this text's walks alone
set_option linter.unusedVariables false
set_option linter.unusedSimpArgs false

/-! ### stoalaw01_alive: function 9 -/
def stoalaw01_alive.j0 : Nat → List Int → Bool → Option (Bool)
  | 0, _, _ => none
  | k + 1, x1, x59 => if x59 = true then (some false) else ((stoaref01_Same.f k x1 (([213, 1] : List Int))).bind fun t152 => (if t152 = true then ((bits_Width.f k (([5, 2] : List Int))).bind fun t156 => (if t156 = 3 then ((bits_Fold.f (-3)).bind fun t157 => (if t157 = 5 then ((bits_Unfold.f 5).bind fun t158 => (if t158 = (-3) then ((bits_Flip.f 0).bind fun t159 => (if t159 = 9223372036854775808 then ((bits_Unflip.f 0).bind fun t160 => (some (t160 == (-9223372036854775808)))) else (some false))) else (some false))) else (some false))) else (some false))) else (some false)))
def stoalaw01_alive.f (k : Nat)  : Option (Bool) := (bits_Pack.f k 3 (([5, 2, 7] : List Int))).bind fun bt130 => ((bits_Unpack.f k (([213, 1] : List Int)) 3 3).bind fun bt137 => ((bits_At.f k (([213, 1] : List Int)) 3 2).bind fun bt144 => ((bits_Narrow.f 200 1).bind fun bt146 => (if bt130.2 = 0 then (if bt137.2 = 0 then (if (bt137.1.length : Int) = 3 then (if 0 < (bt137.1.length : Int) then (if (rd bt137.1 0) = 5 then (if bt144.1 = 7 then (if bt144.2 = true then (if bt146.1 = (-56) then (stoalaw01_alive.j0 k bt130.1 bt146.2) else (stoalaw01_alive.j0 k bt130.1 true)) else (stoalaw01_alive.j0 k bt130.1 true)) else (stoalaw01_alive.j0 k bt130.1 true)) else (stoalaw01_alive.j0 k bt130.1 true)) else (none)) else (stoalaw01_alive.j0 k bt130.1 true)) else (stoalaw01_alive.j0 k bt130.1 true)) else (stoalaw01_alive.j0 k bt130.1 true)))))
theorem stoalaw01_alive.mono_l : ∀ k, (∀ y0 y1, LeO (stoalaw01_alive.j0 k y0 y1) (stoalaw01_alive.j0 (k + 1) y0 y1))
  | 0 => fun _ _ r h => by simp [stoalaw01_alive.j0] at h
  | k + 1 => by
    have ih0 := stoalaw01_alive.mono_l k
    · intro y0 y1
      unfold stoalaw01_alive.j0
      repeat' first
      | (with_reducible exact ih0 _ _)
      | (with_reducible exact bits_At.mono _ _ _ _)
      | (with_reducible exact bits_Pack.mono _ _ _)
      | (with_reducible exact bits_Unpack.mono _ _ _ _)
      | (with_reducible exact bits_Width.mono _ _)
      | (with_reducible exact stoaref01_Same.mono _ _ _)
      | (with_reducible exact LeO.refl _)
      | (with_reducible exact LeO.none _)
      | (with_reducible refine LeO.ite ?_ ?_)
      | (with_reducible refine LeO.bind ?_ (fun _ => ?_))
      | exact ih0 _ _
      | exact bits_At.mono _ _ _ _
      | exact bits_Pack.mono _ _ _
      | exact bits_Unpack.mono _ _ _ _
      | exact bits_Width.mono _ _
      | exact stoaref01_Same.mono _ _ _
      | exact LeO.none _
      | refine LeO.ite ?_ ?_
      | refine LeO.bind ?_ (fun _ => ?_)
theorem stoalaw01_alive.mono : ∀ k, LeO (stoalaw01_alive.f k ) (stoalaw01_alive.f (k + 1) ) := by
  intro  k
  have ih0 := stoalaw01_alive.mono_l k
  unfold stoalaw01_alive.f
  repeat' first
      | (with_reducible exact ih0 _ _)
      | (with_reducible exact bits_At.mono _ _ _ _)
      | (with_reducible exact bits_Pack.mono _ _ _)
      | (with_reducible exact bits_Unpack.mono _ _ _ _)
      | (with_reducible exact bits_Width.mono _ _)
      | (with_reducible exact stoaref01_Same.mono _ _ _)
      | (with_reducible exact LeO.refl _)
      | (with_reducible exact LeO.none _)
      | (with_reducible refine LeO.ite ?_ ?_)
      | (with_reducible refine LeO.bind ?_ (fun _ => ?_))
      | exact ih0 _ _
      | exact bits_At.mono _ _ _ _
      | exact bits_Pack.mono _ _ _
      | exact bits_Unpack.mono _ _ _ _
      | exact bits_Width.mono _ _
      | exact stoaref01_Same.mono _ _ _
      | exact LeO.none _
      | refine LeO.ite ?_ ?_
      | refine LeO.bind ?_ (fun _ => ?_)
set_option maxHeartbeats 8000000 in
set_option maxRecDepth 100000 in
theorem stoalaw01_alive.calls (k : Nat)  (r : Bool) (w : World) (h : stoalaw01_alive.f k  = some r) :
    Calls Try.prog 9 #[] w fun e w' => e = .returned (.bool r) ∧ Below w.heap.size w w' := by
  have HB := Aside0.mk (Below.refl w.heap.size w)
  have H : ((bits_Pack.f k 3 (([5, 2, 7] : List Int))).bind fun bt130 => ((bits_Unpack.f k (([213, 1] : List Int)) 3 3).bind fun bt137 => ((bits_At.f k (([213, 1] : List Int)) 3 2).bind fun bt144 => ((bits_Narrow.f 200 1).bind fun bt146 => (if bt130.2 = 0 then (if bt137.2 = 0 then (if (bt137.1.length : Int) = 3 then (if 0 < (bt137.1.length : Int) then (if (rd bt137.1 0) = 5 then (if bt144.1 = 7 then (if bt144.2 = true then (if bt146.1 = (-56) then (stoalaw01_alive.j0 k bt130.1 bt146.2) else (stoalaw01_alive.j0 k bt130.1 true)) else (stoalaw01_alive.j0 k bt130.1 true)) else (stoalaw01_alive.j0 k bt130.1 true)) else (stoalaw01_alive.j0 k bt130.1 true)) else (none)) else (stoalaw01_alive.j0 k bt130.1 true)) else (stoalaw01_alive.j0 k bt130.1 true)) else (stoalaw01_alive.j0 k bt130.1 true)))))) = some r := h
  clear h
  obtain ⟨y127, hy127⟩ : ∃ y_ : List Int, y_ = (([5, 2, 7] : List Int)) := ⟨_, rfl⟩
  replace H : ((bits_Pack.f k 3 y127).bind fun bt130 => ((bits_Unpack.f k (([213, 1] : List Int)) 3 3).bind fun bt137 => ((bits_At.f k (([213, 1] : List Int)) 3 2).bind fun bt144 => ((bits_Narrow.f 200 1).bind fun bt146 => (if bt130.2 = 0 then (if bt137.2 = 0 then (if (bt137.1.length : Int) = 3 then (if 0 < (bt137.1.length : Int) then (if (rd bt137.1 0) = 5 then (if bt144.1 = 7 then (if bt144.2 = true then (if bt146.1 = (-56) then (stoalaw01_alive.j0 k bt130.1 bt146.2) else (stoalaw01_alive.j0 k bt130.1 true)) else (stoalaw01_alive.j0 k bt130.1 true)) else (stoalaw01_alive.j0 k bt130.1 true)) else (stoalaw01_alive.j0 k bt130.1 true)) else (none)) else (stoalaw01_alive.j0 k bt130.1 true)) else (stoalaw01_alive.j0 k bt130.1 true)) else (stoalaw01_alive.j0 k bt130.1 true)))))) = some r := by first | (rw [hy127]; with_reducible exact H) | (have H2_ := (Option.bind_some _ _).symm.trans H; rw [hy127]; with_reducible exact H2_) | (have H2_ := (Option.bind_some _ _).symm.trans H; with_reducible exact H2_) | with_reducible exact H | (rw [hy127]; exact H) | exact H
  have Ny127 := Aside0.mk hy127
  clear hy127
  replace H := Option.bind_eq_some_iff.mp H
  obtain ⟨⟨t130, t131⟩, A10, H⟩ := H
  replace H : ((bits_Unpack.f k (([213, 1] : List Int)) 3 3).bind fun bt137 => ((bits_At.f k (([213, 1] : List Int)) 3 2).bind fun bt144 => ((bits_Narrow.f 200 1).bind fun bt146 => (if t131 = 0 then (if bt137.2 = 0 then (if (bt137.1.length : Int) = 3 then (if 0 < (bt137.1.length : Int) then (if (rd bt137.1 0) = 5 then (if bt144.1 = 7 then (if bt144.2 = true then (if bt146.1 = (-56) then (stoalaw01_alive.j0 k t130 bt146.2) else (stoalaw01_alive.j0 k t130 true)) else (stoalaw01_alive.j0 k t130 true)) else (stoalaw01_alive.j0 k t130 true)) else (stoalaw01_alive.j0 k t130 true)) else (none)) else (stoalaw01_alive.j0 k t130 true)) else (stoalaw01_alive.j0 k t130 true)) else (stoalaw01_alive.j0 k t130 true))))) = some r := H
  have A1 := Aside0.mk A10
  clear A10
  obtain ⟨y134, hy134⟩ : ∃ y_ : List Int, y_ = (([213, 1] : List Int)) := ⟨_, rfl⟩
  replace H : ((bits_Unpack.f k y134 3 3).bind fun bt137 => ((bits_At.f k (([213, 1] : List Int)) 3 2).bind fun bt144 => ((bits_Narrow.f 200 1).bind fun bt146 => (if t131 = 0 then (if bt137.2 = 0 then (if (bt137.1.length : Int) = 3 then (if 0 < (bt137.1.length : Int) then (if (rd bt137.1 0) = 5 then (if bt144.1 = 7 then (if bt144.2 = true then (if bt146.1 = (-56) then (stoalaw01_alive.j0 k t130 bt146.2) else (stoalaw01_alive.j0 k t130 true)) else (stoalaw01_alive.j0 k t130 true)) else (stoalaw01_alive.j0 k t130 true)) else (stoalaw01_alive.j0 k t130 true)) else (none)) else (stoalaw01_alive.j0 k t130 true)) else (stoalaw01_alive.j0 k t130 true)) else (stoalaw01_alive.j0 k t130 true))))) = some r := by first | (rw [hy134]; with_reducible exact H) | (have H2_ := (Option.bind_some _ _).symm.trans H; rw [hy134]; with_reducible exact H2_) | (have H2_ := (Option.bind_some _ _).symm.trans H; with_reducible exact H2_) | with_reducible exact H | (rw [hy134]; exact H) | exact H
  have Ny134 := Aside0.mk hy134
  clear hy134
  replace H := Option.bind_eq_some_iff.mp H
  obtain ⟨⟨t137, t138⟩, A20, H⟩ := H
  replace H : ((bits_At.f k (([213, 1] : List Int)) 3 2).bind fun bt144 => ((bits_Narrow.f 200 1).bind fun bt146 => (if t131 = 0 then (if t138 = 0 then (if (t137.length : Int) = 3 then (if 0 < (t137.length : Int) then (if (rd t137 0) = 5 then (if bt144.1 = 7 then (if bt144.2 = true then (if bt146.1 = (-56) then (stoalaw01_alive.j0 k t130 bt146.2) else (stoalaw01_alive.j0 k t130 true)) else (stoalaw01_alive.j0 k t130 true)) else (stoalaw01_alive.j0 k t130 true)) else (stoalaw01_alive.j0 k t130 true)) else (none)) else (stoalaw01_alive.j0 k t130 true)) else (stoalaw01_alive.j0 k t130 true)) else (stoalaw01_alive.j0 k t130 true)))) = some r := H
  have A2 := Aside0.mk A20
  clear A20
  replace H : ((bits_At.f k y134 3 2).bind fun bt144 => ((bits_Narrow.f 200 1).bind fun bt146 => (if t131 = 0 then (if t138 = 0 then (if (t137.length : Int) = 3 then (if 0 < (t137.length : Int) then (if (rd t137 0) = 5 then (if bt144.1 = 7 then (if bt144.2 = true then (if bt146.1 = (-56) then (stoalaw01_alive.j0 k t130 bt146.2) else (stoalaw01_alive.j0 k t130 true)) else (stoalaw01_alive.j0 k t130 true)) else (stoalaw01_alive.j0 k t130 true)) else (stoalaw01_alive.j0 k t130 true)) else (none)) else (stoalaw01_alive.j0 k t130 true)) else (stoalaw01_alive.j0 k t130 true)) else (stoalaw01_alive.j0 k t130 true)))) = some r := by first | (rw [Ny134.out]; with_reducible exact H) | (have H2_ := (Option.bind_some _ _).symm.trans H; rw [Ny134.out]; with_reducible exact H2_) | (have H2_ := (Option.bind_some _ _).symm.trans H; with_reducible exact H2_) | with_reducible exact H | (rw [Ny134.out]; exact H) | exact H
  replace H := Option.bind_eq_some_iff.mp H
  obtain ⟨⟨t144, t145⟩, A30, H⟩ := H
  replace H : ((bits_Narrow.f 200 1).bind fun bt146 => (if t131 = 0 then (if t138 = 0 then (if (t137.length : Int) = 3 then (if 0 < (t137.length : Int) then (if (rd t137 0) = 5 then (if t144 = 7 then (if t145 = true then (if bt146.1 = (-56) then (stoalaw01_alive.j0 k t130 bt146.2) else (stoalaw01_alive.j0 k t130 true)) else (stoalaw01_alive.j0 k t130 true)) else (stoalaw01_alive.j0 k t130 true)) else (stoalaw01_alive.j0 k t130 true)) else (none)) else (stoalaw01_alive.j0 k t130 true)) else (stoalaw01_alive.j0 k t130 true)) else (stoalaw01_alive.j0 k t130 true))) = some r := H
  have A3 := Aside0.mk A30
  clear A30
  replace H := Option.bind_eq_some_iff.mp H
  obtain ⟨⟨t146, t147⟩, A40, H⟩ := H
  replace H : (if t131 = 0 then (if t138 = 0 then (if (t137.length : Int) = 3 then (if 0 < (t137.length : Int) then (if (rd t137 0) = 5 then (if t144 = 7 then (if t145 = true then (if t146 = (-56) then (stoalaw01_alive.j0 k t130 t147) else (stoalaw01_alive.j0 k t130 true)) else (stoalaw01_alive.j0 k t130 true)) else (stoalaw01_alive.j0 k t130 true)) else (stoalaw01_alive.j0 k t130 true)) else (none)) else (stoalaw01_alive.j0 k t130 true)) else (stoalaw01_alive.j0 k t130 true)) else (stoalaw01_alive.j0 k t130 true)) = some r := H
  have A4 := Aside0.mk A40
  clear A40
  have HC5 := Aside0.mk H
  clear H
  go_enter Try.func9, Try.ntmps9
  go_upto_region 5 with (first | ((with_reducible refine gate_dst (N := 10) rfl ?_); (try (refine gate_guard (by rfl) ?_; dsimp only)); refine Kd.R_lit (Kd.int .u64) _ 41 ?hg (N := 10) ?hd (xs := ([5, 2, 7] : List Int)) (inner := [.int .u64 5, .int .u64 2, .int .u64 7]) (ok := fun _ => True) (okp := fun _ => True) ?hr ?hp (fun _ hk => hk) trivial (Below.refl _ _) (Nat.le_refl _) (by simp) ?_; (case hd => rfl); (case hg => rfl); (case hr => first | (go_simp; done) | (go_simp; rfl)); (case hp => exact (Reps.one (show Kd.M (Kd.int .u64) _ _ _ 5 [.int .u64 5] from rfl) (Reps.one (show Kd.M (Kd.int .u64) _ _ _ 2 [.int .u64 2] from rfl) (Reps.one (show Kd.M (Kd.int .u64) _ _ _ 7 [.int .u64 7] from rfl) (Reps.none _ _))))); intro v128 w6 ho7 hb hg_ hnew_; clear hg_ hnew_; (first | rw [← Ny127.out] at ho7 | (simp only [Int.reduceToNat] at ho7; rw [← Ny127.out] at ho7)); have n0_ := Aside0.mk (Kd.R_lower ho7 (below_size (by repeat (first | (with_reducible first | exact HB.out | apply below_alloc | apply pw_below_drewN | apply below_drew1) | exact HB.out)))); have n1_ := Aside0.mk (below_step (by repeat (first | (with_reducible first | exact HB.out | apply below_alloc | apply pw_below_drewN | apply below_drew1) | exact HB.out)) hb); clear HB; have HO129 := n0_; have HB := n1_; clear n0_ n1_; clear hb ho7; obtain ⟨Ao8, co8, eo8⟩ := Kd.R_slice HO129.out; subst eo8) | ((with_reducible refine gate_callee (f := 12) rfl ?_); refine goesL_ (some 11) rfl rfl Try.func12 (by kernel_rfl) rfl #[.int .i64 3, .slice Ao8 y127.length co8] rfl (by (try simp only [List.map_toArray, List.map_cons, List.map_nil]); first | done | rfl | (simp only [List.length_drop, List.length_take]; rfl)) ?_; (with_reducible refine (bits_Pack.calls k 3 _ _ y127 t130 t131 _ ?side1 ?side2 A1.out).mono ?_); (case side1 => repeat (first | exact (Kd.R_reads' HO129.out).2.2 | (with_reducible refine Kd.C_alloc ?_ _) | (with_reducible refine Kd.C_drewN ?_ _) | (with_reducible refine Kd.C_drew ?_))); (case side2 => exact (Kd.R_reads' HO129.out).2.1); rintro e w9 ⟨v132, rfl, ho0, hb⟩; refine ⟨_, rfl, ?_⟩; have n0_ := Aside0.mk (Kd.R_below (by (with_reducible repeat (first | apply Kd.R_alloc | apply Kd.R_drewN | apply Kd.R_drew)); exact HO129.out) hb); have n1_ := Aside0.mk (Kd.R_lower ho0 (below_size (by repeat (first | (with_reducible first | exact HB.out | apply below_alloc | apply pw_below_drewN | apply below_drew1) | exact HB.out)))); have n2_ := Aside0.mk (below_step (by repeat (first | (with_reducible first | exact HB.out | apply below_alloc | apply pw_below_drewN | apply below_drew1) | exact HB.out)) hb); clear HO129; clear HB; have HO129 := n0_; have HO133 := n1_; have HB := n2_; clear n0_ n1_ n2_; (try clear hb); (try clear hb2); (try clear hk); (try clear hi); (try clear ho0)) | ((with_reducible refine gate_dst (N := 15) rfl ?_); (try (refine gate_guard (by rfl) ?_; dsimp only)); refine Kd.R_lit (Kd.int .u8) _ 5 ?hg (N := 15) ?hd (xs := ([213, 1] : List Int)) (inner := [.int .u8 213, .int .u8 1]) (ok := fun _ => True) (okp := fun _ => True) ?hr ?hp (fun _ hk => hk) trivial (Below.refl _ _) (Nat.le_refl _) (by simp) ?_; (case hd => rfl); (case hg => rfl); (case hr => first | (go_simp; done) | (go_simp; rfl)); (case hp => exact (Reps.one (show Kd.M (Kd.int .u8) _ _ _ 213 [.int .u8 213] from rfl) (Reps.one (show Kd.M (Kd.int .u8) _ _ _ 1 [.int .u8 1] from rfl) (Reps.none _ _)))); intro v135 w10 ho11 hb hg_ hnew_; clear hg_ hnew_; (first | rw [← Ny134.out] at ho11 | (simp only [Int.reduceToNat] at ho11; rw [← Ny134.out] at ho11)); have n0_ := Aside0.mk (Kd.R_below (by (with_reducible repeat (first | apply Kd.R_alloc | apply Kd.R_drewN | apply Kd.R_drew)); exact HO129.out) hb); have n1_ := Aside0.mk (Kd.R_elder' (by (with_reducible repeat (first | apply Kd.R_alloc | apply Kd.R_drewN | apply Kd.R_drew)); exact HO133.out) (Kd.R_base ho11) hb); have n2_ := Aside0.mk (Kd.R_lower (Kd.R_new' ho11 (Kd.R_lt (by (with_reducible repeat (first | apply Kd.R_alloc | apply Kd.R_drewN | apply Kd.R_drew)); exact HO133.out))) (below_size (by repeat (first | (with_reducible first | exact HB.out | apply below_alloc | apply pw_below_drewN | apply below_drew1) | exact HB.out)))); have n3_ := Aside0.mk (below_step (by repeat (first | (with_reducible first | exact HB.out | apply below_alloc | apply pw_below_drewN | apply below_drew1) | exact HB.out)) hb); clear HO129; clear HO133; clear HB; have HO129 := n0_; have HO133 := n1_; have HO136 := n2_; have HB := n3_; clear n0_ n1_ n2_ n3_; clear hb ho11; obtain ⟨Ao12, co12, eo12⟩ := Kd.R_slice HO136.out; subst eo12) | ((with_reducible refine gate_callee (f := 19) rfl ?_); refine goesL_ (some 16) rfl rfl Try.func19 (by kernel_rfl) rfl #[.slice Ao12 y134.length co12, .int .i64 3, .int .i64 3] rfl (by (try simp only [List.map_toArray, List.map_cons, List.map_nil]); first | done | rfl | (simp only [List.length_drop, List.length_take]; rfl)) ?_; (with_reducible refine (bits_Unpack.calls k _ _ y134 3 3 t137 t138 _ ?side1 ?side2 A2.out).mono ?_); (case side1 => repeat (first | exact (Kd.R_reads' HO136.out).2.2 | (with_reducible refine Kd.C_alloc ?_ _) | (with_reducible refine Kd.C_drewN ?_ _) | (with_reducible refine Kd.C_drew ?_))); (case side2 => exact (Kd.R_reads' HO136.out).2.1); rintro e w13 ⟨v139, rfl, ho0, hb⟩; refine ⟨_, rfl, ?_⟩; have n0_ := Aside0.mk (Kd.R_elder' (by (with_reducible repeat (first | apply Kd.R_alloc | apply Kd.R_drewN | apply Kd.R_drew)); exact HO129.out) (Kd.R_base ho0) hb); have n1_ := Aside0.mk (Kd.R_below (by (with_reducible repeat (first | apply Kd.R_alloc | apply Kd.R_drewN | apply Kd.R_drew)); exact HO133.out) hb); have n2_ := Aside0.mk (Kd.R_below (by (with_reducible repeat (first | apply Kd.R_alloc | apply Kd.R_drewN | apply Kd.R_drew)); exact HO136.out) hb); have n3_ := Aside0.mk (Kd.R_lower (Kd.R_new' ho0 (Kd.R_lt (by (with_reducible repeat (first | apply Kd.R_alloc | apply Kd.R_drewN | apply Kd.R_drew)); exact HO129.out))) (below_size (by repeat (first | (with_reducible first | exact HB.out | apply below_alloc | apply pw_below_drewN | apply below_drew1) | exact HB.out)))); have n4_ := Aside0.mk (below_step (by repeat (first | (with_reducible first | exact HB.out | apply below_alloc | apply pw_below_drewN | apply below_drew1) | exact HB.out)) hb); clear HO129; clear HO133; clear HO136; clear HB; have HO129 := n0_; have HO133 := n1_; have HO136 := n2_; have HO140 := n3_; have HB := n4_; clear n0_ n1_ n2_ n3_ n4_; (try clear hb); (try clear hb2); (try clear hk); (try clear hi); (try clear ho0)) | ((with_reducible refine gate_dst (N := 20) rfl ?_); (try (refine gate_guard (by rfl) ?_; dsimp only)); refine Kd.R_lit (Kd.int .u8) _ 5 ?hg (N := 20) ?hd (xs := ([213, 1] : List Int)) (inner := [.int .u8 213, .int .u8 1]) (ok := fun _ => True) (okp := fun _ => True) ?hr ?hp (fun _ hk => hk) trivial (Below.refl _ _) (Nat.le_refl _) (by simp) ?_; (case hd => rfl); (case hg => rfl); (case hr => first | (go_simp; done) | (go_simp; rfl)); (case hp => exact (Reps.one (show Kd.M (Kd.int .u8) _ _ _ 213 [.int .u8 213] from rfl) (Reps.one (show Kd.M (Kd.int .u8) _ _ _ 1 [.int .u8 1] from rfl) (Reps.none _ _)))); intro v142 w14 ho15 hb hg_ hnew_; clear hg_ hnew_; (first | rw [← Ny134.out] at ho15 | (simp only [Int.reduceToNat] at ho15; rw [← Ny134.out] at ho15)); have n0_ := Aside0.mk (Kd.R_below (by (with_reducible repeat (first | apply Kd.R_alloc | apply Kd.R_drewN | apply Kd.R_drew)); exact HO129.out) hb); have n1_ := Aside0.mk (Kd.R_elder' (by (with_reducible repeat (first | apply Kd.R_alloc | apply Kd.R_drewN | apply Kd.R_drew)); exact HO133.out) (Kd.R_base ho15) hb); have n2_ := Aside0.mk (Kd.R_elder' (by (with_reducible repeat (first | apply Kd.R_alloc | apply Kd.R_drewN | apply Kd.R_drew)); exact HO136.out) (Kd.R_base ho15) hb); have n3_ := Aside0.mk (Kd.R_below (by (with_reducible repeat (first | apply Kd.R_alloc | apply Kd.R_drewN | apply Kd.R_drew)); exact HO140.out) hb); have n4_ := Aside0.mk (Kd.R_lower (Kd.R_new' (Kd.R_new' ho15 (Kd.R_lt (by (with_reducible repeat (first | apply Kd.R_alloc | apply Kd.R_drewN | apply Kd.R_drew)); exact HO133.out))) (Kd.R_lt (by (with_reducible repeat (first | apply Kd.R_alloc | apply Kd.R_drewN | apply Kd.R_drew)); exact HO136.out))) (below_size (by repeat (first | (with_reducible first | exact HB.out | apply below_alloc | apply pw_below_drewN | apply below_drew1) | exact HB.out)))); have n5_ := Aside0.mk (below_step (by repeat (first | (with_reducible first | exact HB.out | apply below_alloc | apply pw_below_drewN | apply below_drew1) | exact HB.out)) hb); clear HO129; clear HO133; clear HO136; clear HO140; clear HB; have HO129 := n0_; have HO133 := n1_; have HO136 := n2_; have HO140 := n3_; have HO143 := n4_; have HB := n5_; clear n0_ n1_ n2_ n3_ n4_ n5_; clear hb ho15; obtain ⟨Ao16, co16, eo16⟩ := Kd.R_slice HO143.out; subst eo16) | ((with_reducible refine gate_callee (f := 21) rfl ?_); refine goesL_ (some 21) rfl rfl Try.func21 (by kernel_rfl) rfl #[.slice Ao16 y134.length co16, .int .i64 3, .int .i64 2] rfl (by (try simp only [List.map_toArray, List.map_cons, List.map_nil]); first | done | rfl | (simp only [List.length_drop, List.length_take]; rfl)) ?_; (with_reducible refine (bits_At.calls k _ _ y134 3 2 t144 t145 _ ?side1 ?side2 A3.out).mono ?_); (case side1 => repeat (first | exact (Kd.R_reads' HO143.out).2.2 | (with_reducible refine Kd.C_alloc ?_ _) | (with_reducible refine Kd.C_drewN ?_ _) | (with_reducible refine Kd.C_drew ?_))); (case side2 => exact (Kd.R_reads' HO143.out).2.1); rintro e w17 ⟨rfl, hb⟩; refine ⟨_, rfl, ?_⟩; have n0_ := Aside0.mk (Kd.R_below (by (with_reducible repeat (first | apply Kd.R_alloc | apply Kd.R_drewN | apply Kd.R_drew)); exact HO129.out) hb); have n1_ := Aside0.mk (Kd.R_below (by (with_reducible repeat (first | apply Kd.R_alloc | apply Kd.R_drewN | apply Kd.R_drew)); exact HO133.out) hb); have n2_ := Aside0.mk (Kd.R_below (by (with_reducible repeat (first | apply Kd.R_alloc | apply Kd.R_drewN | apply Kd.R_drew)); exact HO136.out) hb); have n3_ := Aside0.mk (Kd.R_below (by (with_reducible repeat (first | apply Kd.R_alloc | apply Kd.R_drewN | apply Kd.R_drew)); exact HO140.out) hb); have n4_ := Aside0.mk (Kd.R_below (by (with_reducible repeat (first | apply Kd.R_alloc | apply Kd.R_drewN | apply Kd.R_drew)); exact HO143.out) hb); have n5_ := Aside0.mk (below_step (by repeat (first | (with_reducible first | exact HB.out | apply below_alloc | apply pw_below_drewN | apply below_drew1) | exact HB.out)) hb); clear HO129; clear HO133; clear HO136; clear HO140; clear HO143; clear HB; have HO129 := n0_; have HO133 := n1_; have HO136 := n2_; have HO140 := n3_; have HO143 := n4_; have HB := n5_; clear n0_ n1_ n2_ n3_ n4_ n5_; (try clear hb); (try clear hb2); (try clear hk); (try clear hi)) | ((with_reducible refine gate_callee (f := 30) rfl ?_); refine goesL_ (some 25) rfl rfl Try.func30 (by kernel_rfl) rfl #[.int .i64 200, .int .i64 1] rfl (by (try simp only [List.map_toArray, List.map_cons, List.map_nil]); first | done | rfl | (simp only [List.length_drop, List.length_take]; rfl)) ?_; (with_reducible refine (bits_Narrow.calls 200 1 t146 t147 _ A4.out).mono ?_); rintro e w' ⟨rfl, ⟨nd, rfl⟩⟩; refine ⟨_, rfl, ?_⟩))
  (try simp only [Act.put, List.setIfInBounds_toArray, List.set_cons_zero, List.set_cons_succ])
  go_cut [59] (fun v59 wc => ∃ (kq : Nat) (x59_4 : Bool), v59 = .bool x59_4 ∧ Aside0 (stoalaw01_alive.j0 kq t130 x59_4 = some r) ∧ Aside0 (kq ≤ k) ∧ Aside0 (Kd.R (Kd.int .u8) 5 wc w.heap.size (fun _ => True) v132 t130) ∧ Aside0 (Below w.heap.size w wc))
  case first =>
    have H := HC5.out
    clear HC5
    by_cases c18 : t131 = 0
    · rw [if_pos c18] at H
      have c18b0 : (t131 == 0) = true := beq_iff_eq.mpr c18
      have c18b1 : (t131 != 0) = false := bne_eq_false_iff_eq.mpr c18
      clear c18
      (first | rw [c18b0] | (simp only [i64_w, i32_w]; rw [c18b0]) | skip)
      by_cases c19 : t138 = 0
      · rw [if_pos c19] at H
        have c19b0 : (t138 == 0) = true := beq_iff_eq.mpr c19
        have c19b1 : (t138 != 0) = false := bne_eq_false_iff_eq.mpr c19
        clear c19
        by_cases c20 : (t137.length : Int) = 3
        · rw [if_pos c20] at H
          have c20b0 : ((t137.length : Int) == 3) = true := beq_iff_eq.mpr c20
          have c20b1 : ((t137.length : Int) != 3) = false := bne_eq_false_iff_eq.mpr c20
          clear c20
          by_cases c21 : 0 < (t137.length : Int)
          · rw [if_pos c21] at H
            have c21b0 : decide (0 < (t137.length : Int)) = true := decide_eq_true c21
            have c21b1 : decide (0 < t137.length) = true := decide_eq_true (by omega)
            clear c21
            by_cases c22 : (rd t137 0) = 5
            · rw [if_pos c22] at H
              have c22b0 : ((rd t137 0) == 5) = true := beq_iff_eq.mpr c22
              have c22b1 : ((rd t137 0) != 5) = false := bne_eq_false_iff_eq.mpr c22
              clear c22
              by_cases c23 : t144 = 7
              · rw [if_pos c23] at H
                have c23b0 : (t144 == 7) = true := beq_iff_eq.mpr c23
                have c23b1 : (t144 != 7) = false := bne_eq_false_iff_eq.mpr c23
                clear c23
                by_cases c24 : t145 = true
                · subst c24
                  have H1 : (if t146 = (-56) then (stoalaw01_alive.j0 k t130 t147) else (stoalaw01_alive.j0 k t130 true)) = some r := by rw [if_pos rfl] at H; exact H
                  clear H
                  have H := H1
                  clear H1
                  by_cases c25 : t146 = (-56)
                  · rw [if_pos c25] at H
                    have c25b0 : (t146 == (-56)) = true := beq_iff_eq.mpr c25
                    have c25b1 : (t146 != (-56)) = false := bne_eq_false_iff_eq.mpr c25
                    clear c25
                    have H' := Aside0.mk H
                    clear H
                    obtain ⟨Ao26, co26, eo26⟩ := Kd.R_slice HO140.out
                    subst eo26
                    have p148 : 0 ≤ (0 : Int) := (by omega)
                    have q148 : 0 < (t137.length : Int) := of_decide_eq_true (by first | (with_reducible assumption) | assumption)
                    obtain ⟨ad148, e148, hx148_0⟩ := Kd.at_int (Kd.R_reads' HO140.out).2.2 0 p148 q148
                    cases e148
                    have qi148 : (0 < t137.length) = True := eq_true (by omega)
                    (try rw [show ((0 : Int)).toNat = 0 from rfl] at hx148_0)
                    (try rw [Addr.add_zero'] at hx148_0)
                    replace p148 := eq_true p148
                    replace q148 := eq_true q148
                    go_wp2
                    go_meet
                    case rel => exact ⟨_, (t147), (by first | rfl | (simp; done) | (simp [*]; done)), H', ⟨by first | omega | exact Nat.le_refl _⟩, ⟨by (with_reducible repeat (first | apply Kd.R_alloc | apply Kd.R_drewN | apply Kd.R_drew)); exact Kd.R_mono HO133.out (fun _ hk => trivial)⟩, ⟨by repeat (first | (with_reducible first | exact HB.out | apply below_alloc | apply pw_below_drewN | apply below_drew1) | exact HB.out)⟩⟩
                  · rw [if_neg c25] at H
                    have c25b0 : (t146 == (-56)) = false := beq_eq_false_iff_ne.mpr c25
                    have c25b1 : (t146 != (-56)) = true := bne_iff_ne.mpr c25
                    have H' := Aside0.mk H
                    clear H
                    obtain ⟨Ao27, co27, eo27⟩ := Kd.R_slice HO140.out
                    subst eo27
                    have p148 : 0 ≤ (0 : Int) := (by omega)
                    have q148 : 0 < (t137.length : Int) := of_decide_eq_true (by first | (with_reducible assumption) | assumption)
                    obtain ⟨ad148, e148, hx148_0⟩ := Kd.at_int (Kd.R_reads' HO140.out).2.2 0 p148 q148
                    cases e148
                    have qi148 : (0 < t137.length) = True := eq_true (by omega)
                    (try rw [show ((0 : Int)).toNat = 0 from rfl] at hx148_0)
                    (try rw [Addr.add_zero'] at hx148_0)
                    replace p148 := eq_true p148
                    replace q148 := eq_true q148
                    go_wp2
                    go_meet
                    case rel => exact ⟨_, (true), (by first | rfl | (simp; done) | (simp [*]; done)), H', ⟨by first | omega | exact Nat.le_refl _⟩, ⟨by (with_reducible repeat (first | apply Kd.R_alloc | apply Kd.R_drewN | apply Kd.R_drew)); exact Kd.R_mono HO133.out (fun _ hk => trivial)⟩, ⟨by repeat (first | (with_reducible first | exact HB.out | apply below_alloc | apply pw_below_drewN | apply below_drew1) | exact HB.out)⟩⟩
                · replace c24 := Bool.eq_false_iff.mpr c24
                  subst c24
                  have H1 : (stoalaw01_alive.j0 k t130 true) = some r := by rw [if_neg (show ¬ (false = true) by decide)] at H; exact H
                  clear H
                  have H := H1
                  clear H1
                  have H' := Aside0.mk H
                  clear H
                  obtain ⟨Ao28, co28, eo28⟩ := Kd.R_slice HO140.out
                  subst eo28
                  have p148 : 0 ≤ (0 : Int) := (by omega)
                  have q148 : 0 < (t137.length : Int) := of_decide_eq_true (by first | (with_reducible assumption) | assumption)
                  obtain ⟨ad148, e148, hx148_0⟩ := Kd.at_int (Kd.R_reads' HO140.out).2.2 0 p148 q148
                  cases e148
                  have qi148 : (0 < t137.length) = True := eq_true (by omega)
                  (try rw [show ((0 : Int)).toNat = 0 from rfl] at hx148_0)
                  (try rw [Addr.add_zero'] at hx148_0)
                  replace p148 := eq_true p148
                  replace q148 := eq_true q148
                  go_wp2
                  go_meet
                  case rel => exact ⟨_, (true), (by first | rfl | (simp; done) | (simp [*]; done)), H', ⟨by first | omega | exact Nat.le_refl _⟩, ⟨by (with_reducible repeat (first | apply Kd.R_alloc | apply Kd.R_drewN | apply Kd.R_drew)); exact Kd.R_mono HO133.out (fun _ hk => trivial)⟩, ⟨by repeat (first | (with_reducible first | exact HB.out | apply below_alloc | apply pw_below_drewN | apply below_drew1) | exact HB.out)⟩⟩
              · rw [if_neg c23] at H
                have c23b0 : (t144 == 7) = false := beq_eq_false_iff_ne.mpr c23
                have c23b1 : (t144 != 7) = true := bne_iff_ne.mpr c23
                have H' := Aside0.mk H
                clear H
                obtain ⟨Ao29, co29, eo29⟩ := Kd.R_slice HO140.out
                subst eo29
                have p148 : 0 ≤ (0 : Int) := (by omega)
                have q148 : 0 < (t137.length : Int) := of_decide_eq_true (by first | (with_reducible assumption) | assumption)
                obtain ⟨ad148, e148, hx148_0⟩ := Kd.at_int (Kd.R_reads' HO140.out).2.2 0 p148 q148
                cases e148
                have qi148 : (0 < t137.length) = True := eq_true (by omega)
                (try rw [show ((0 : Int)).toNat = 0 from rfl] at hx148_0)
                (try rw [Addr.add_zero'] at hx148_0)
                replace p148 := eq_true p148
                replace q148 := eq_true q148
                go_wp2
                go_meet
                case rel => exact ⟨_, (true), (by first | rfl | (simp; done) | (simp [*]; done)), H', ⟨by first | omega | exact Nat.le_refl _⟩, ⟨by (with_reducible repeat (first | apply Kd.R_alloc | apply Kd.R_drewN | apply Kd.R_drew)); exact Kd.R_mono HO133.out (fun _ hk => trivial)⟩, ⟨by repeat (first | (with_reducible first | exact HB.out | apply below_alloc | apply pw_below_drewN | apply below_drew1) | exact HB.out)⟩⟩
            · rw [if_neg c22] at H
              have c22b0 : ((rd t137 0) == 5) = false := beq_eq_false_iff_ne.mpr c22
              have c22b1 : ((rd t137 0) != 5) = true := bne_iff_ne.mpr c22
              have H' := Aside0.mk H
              clear H
              obtain ⟨Ao30, co30, eo30⟩ := Kd.R_slice HO140.out
              subst eo30
              have p148 : 0 ≤ (0 : Int) := (by omega)
              have q148 : 0 < (t137.length : Int) := of_decide_eq_true (by first | (with_reducible assumption) | assumption)
              obtain ⟨ad148, e148, hx148_0⟩ := Kd.at_int (Kd.R_reads' HO140.out).2.2 0 p148 q148
              cases e148
              have qi148 : (0 < t137.length) = True := eq_true (by omega)
              (try rw [show ((0 : Int)).toNat = 0 from rfl] at hx148_0)
              (try rw [Addr.add_zero'] at hx148_0)
              replace p148 := eq_true p148
              replace q148 := eq_true q148
              go_wp2
              go_meet
              case rel => exact ⟨_, (true), (by first | rfl | (simp; done) | (simp [*]; done)), H', ⟨by first | omega | exact Nat.le_refl _⟩, ⟨by (with_reducible repeat (first | apply Kd.R_alloc | apply Kd.R_drewN | apply Kd.R_drew)); exact Kd.R_mono HO133.out (fun _ hk => trivial)⟩, ⟨by repeat (first | (with_reducible first | exact HB.out | apply below_alloc | apply pw_below_drewN | apply below_drew1) | exact HB.out)⟩⟩
          · rw [if_neg c21] at H
            exact absurd H (by simp)
        · rw [if_neg c20] at H
          have c20b0 : ((t137.length : Int) == 3) = false := beq_eq_false_iff_ne.mpr c20
          have c20b1 : ((t137.length : Int) != 3) = true := bne_iff_ne.mpr c20
          have H' := Aside0.mk H
          clear H
          obtain ⟨Ao31, co31, eo31⟩ := Kd.R_slice HO140.out
          subst eo31
          go_wp2
          go_meet
          case rel => exact ⟨_, (true), (by first | rfl | (simp; done) | (simp [*]; done)), H', ⟨by first | omega | exact Nat.le_refl _⟩, ⟨by (with_reducible repeat (first | apply Kd.R_alloc | apply Kd.R_drewN | apply Kd.R_drew)); exact Kd.R_mono HO133.out (fun _ hk => trivial)⟩, ⟨by repeat (first | (with_reducible first | exact HB.out | apply below_alloc | apply pw_below_drewN | apply below_drew1) | exact HB.out)⟩⟩
      · rw [if_neg c19] at H
        have c19b0 : (t138 == 0) = false := beq_eq_false_iff_ne.mpr c19
        have c19b1 : (t138 != 0) = true := bne_iff_ne.mpr c19
        have H' := Aside0.mk H
        clear H
        go_wp2
        go_meet
        case rel => exact ⟨_, (true), (by first | rfl | (simp; done) | (simp [*]; done)), H', ⟨by first | omega | exact Nat.le_refl _⟩, ⟨by (with_reducible repeat (first | apply Kd.R_alloc | apply Kd.R_drewN | apply Kd.R_drew)); exact Kd.R_mono HO133.out (fun _ hk => trivial)⟩, ⟨by repeat (first | (with_reducible first | exact HB.out | apply below_alloc | apply pw_below_drewN | apply below_drew1) | exact HB.out)⟩⟩
    · rw [if_neg c18] at H
      have c18b0 : (t131 == 0) = false := beq_eq_false_iff_ne.mpr c18
      have c18b1 : (t131 != 0) = true := bne_iff_ne.mpr c18
      (first | rw [c18b0] | (simp only [i64_w, i32_w]; rw [c18b0]) | skip)
      have H' := Aside0.mk H
      clear H
      go_wp2
      go_meet
      case rel => exact ⟨_, (true), (by first | rfl | (simp; done) | (simp [*]; done)), H', ⟨by first | omega | exact Nat.le_refl _⟩, ⟨by (with_reducible repeat (first | apply Kd.R_alloc | apply Kd.R_drewN | apply Kd.R_drew)); exact Kd.R_mono HO133.out (fun _ hk => trivial)⟩, ⟨by repeat (first | (with_reducible first | exact HB.out | apply below_alloc | apply pw_below_drewN | apply below_drew1) | exact HB.out)⟩⟩
  case rest =>
    clear HC5
    try clear c1
    try clear p1
    try clear q1
    try clear hx1
    try clear qi1
    try clear c2
    try clear p2
    try clear c3
    try clear c9
    try clear c12
    try clear p14
    try clear q14
    try clear hx14
    try clear qi14
    try clear c18
    try clear c18b0
    try clear c18b1
    try clear c19
    try clear c19b0
    try clear c19b1
    try clear c20
    try clear c20b0
    try clear c20b1
    try clear c21
    try clear c21b0
    try clear c21b1
    try clear c22
    try clear c22b0
    try clear c22b1
    try clear c23
    try clear c23b0
    try clear c23b1
    try clear c24
    try clear c25
    try clear c25b0
    try clear c25b1
    try clear c30
    try clear hx148_0
    try clear p148
    try clear q148
    obtain ⟨kq, x59_4, rfl, HA, HJ4, HO_1, HB⟩ := hcut
    cases kq with
    | zero => exact absurd HA.out (by simp [stoalaw01_alive.j0])
    | succ kj4 =>
      have H := HA.out
      clear HA
      simp only [stoalaw01_alive.j0] at H
      by_cases c32 : x59_4 = true
      · subst c32
        have H1 : (some false) = some r := by rw [if_pos rfl] at H; exact H
        clear H
        have H := H1
        clear H1
        obtain rfl := Option.some.inj H
        go_wp2
        go_ret
        exact ⟨by first | rfl | (simp [errW_none, errW_some] <;> rfl) | (simp [*, errW_none, errW_some] <;> rfl), by repeat (first | (with_reducible first | exact HB.out | apply below_alloc | apply pw_below_drewN | apply below_drew1) | exact HB.out)⟩
      · replace c32 := Bool.eq_false_iff.mpr c32
        subst c32
        have H1 : ((stoaref01_Same.f kj4 t130 (([213, 1] : List Int))).bind fun t152 => (if t152 = true then ((bits_Width.f kj4 (([5, 2] : List Int))).bind fun t156 => (if t156 = 3 then ((bits_Fold.f (-3)).bind fun t157 => (if t157 = 5 then ((bits_Unfold.f 5).bind fun t158 => (if t158 = (-3) then ((bits_Flip.f 0).bind fun t159 => (if t159 = 9223372036854775808 then ((bits_Unflip.f 0).bind fun t160 => (some (t160 == (-9223372036854775808)))) else (some false))) else (some false))) else (some false))) else (some false))) else (some false))) = some r := by rw [if_neg (show ¬ (false = true) by decide)] at H; exact H
        clear H
        have H := H1
        clear H1
        replace H : ((stoaref01_Same.f kj4 t130 y134).bind fun t152 => (if t152 = true then ((bits_Width.f kj4 (([5, 2] : List Int))).bind fun t156 => (if t156 = 3 then ((bits_Fold.f (-3)).bind fun t157 => (if t157 = 5 then ((bits_Unfold.f 5).bind fun t158 => (if t158 = (-3) then ((bits_Flip.f 0).bind fun t159 => (if t159 = 9223372036854775808 then ((bits_Unflip.f 0).bind fun t160 => (some (t160 == (-9223372036854775808)))) else (some false))) else (some false))) else (some false))) else (some false))) else (some false))) = some r := by first | (rw [Ny134.out]; with_reducible exact H) | (have H2_ := (Option.bind_some _ _).symm.trans H; rw [Ny134.out]; with_reducible exact H2_) | (have H2_ := (Option.bind_some _ _).symm.trans H; with_reducible exact H2_) | with_reducible exact H | (rw [Ny134.out]; exact H) | exact H
        replace H := Option.bind_eq_some_iff.mp H
        obtain ⟨t152, A330, H⟩ := H
        replace H : (if t152 = true then ((bits_Width.f kj4 (([5, 2] : List Int))).bind fun t156 => (if t156 = 3 then ((bits_Fold.f (-3)).bind fun t157 => (if t157 = 5 then ((bits_Unfold.f 5).bind fun t158 => (if t158 = (-3) then ((bits_Flip.f 0).bind fun t159 => (if t159 = 9223372036854775808 then ((bits_Unflip.f 0).bind fun t160 => (some (t160 == (-9223372036854775808)))) else (some false))) else (some false))) else (some false))) else (some false))) else (some false)) = some r := H
        have A33 := Aside0.mk A330
        clear A330
        by_cases c34 : t152 = true
        · subst c34
          have H1 : ((bits_Width.f kj4 (([5, 2] : List Int))).bind fun t156 => (if t156 = 3 then ((bits_Fold.f (-3)).bind fun t157 => (if t157 = 5 then ((bits_Unfold.f 5).bind fun t158 => (if t158 = (-3) then ((bits_Flip.f 0).bind fun t159 => (if t159 = 9223372036854775808 then ((bits_Unflip.f 0).bind fun t160 => (some (t160 == (-9223372036854775808)))) else (some false))) else (some false))) else (some false))) else (some false))) = some r := by rw [if_pos rfl] at H; exact H
          clear H
          have H := H1
          clear H1
          obtain ⟨y153, hy153⟩ : ∃ y_ : List Int, y_ = (([5, 2] : List Int)) := ⟨_, rfl⟩
          replace H : ((bits_Width.f kj4 y153).bind fun t156 => (if t156 = 3 then ((bits_Fold.f (-3)).bind fun t157 => (if t157 = 5 then ((bits_Unfold.f 5).bind fun t158 => (if t158 = (-3) then ((bits_Flip.f 0).bind fun t159 => (if t159 = 9223372036854775808 then ((bits_Unflip.f 0).bind fun t160 => (some (t160 == (-9223372036854775808)))) else (some false))) else (some false))) else (some false))) else (some false))) = some r := by first | (rw [hy153]; with_reducible exact H) | (have H2_ := (Option.bind_some _ _).symm.trans H; rw [hy153]; with_reducible exact H2_) | (have H2_ := (Option.bind_some _ _).symm.trans H; with_reducible exact H2_) | with_reducible exact H | (rw [hy153]; exact H) | exact H
          have Ny153 := Aside0.mk hy153
          clear hy153
          replace H := Option.bind_eq_some_iff.mp H
          obtain ⟨t156, A350, H⟩ := H
          replace H : (if t156 = 3 then ((bits_Fold.f (-3)).bind fun t157 => (if t157 = 5 then ((bits_Unfold.f 5).bind fun t158 => (if t158 = (-3) then ((bits_Flip.f 0).bind fun t159 => (if t159 = 9223372036854775808 then ((bits_Unflip.f 0).bind fun t160 => (some (t160 == (-9223372036854775808)))) else (some false))) else (some false))) else (some false))) else (some false)) = some r := H
          have A35 := Aside0.mk A350
          clear A350
          by_cases c36 : t156 = 3
          · rw [if_pos c36] at H
            have c36b0 : (t156 == 3) = true := beq_iff_eq.mpr c36
            have c36b1 : (t156 != 3) = false := bne_eq_false_iff_eq.mpr c36
            clear c36
            replace H := Option.bind_eq_some_iff.mp H
            obtain ⟨t157, A370, H⟩ := H
            replace H : (if t157 = 5 then ((bits_Unfold.f 5).bind fun t158 => (if t158 = (-3) then ((bits_Flip.f 0).bind fun t159 => (if t159 = 9223372036854775808 then ((bits_Unflip.f 0).bind fun t160 => (some (t160 == (-9223372036854775808)))) else (some false))) else (some false))) else (some false)) = some r := H
            have A37 := Aside0.mk A370
            clear A370
            by_cases c38 : t157 = 5
            · rw [if_pos c38] at H
              have c38b0 : (t157 == 5) = true := beq_iff_eq.mpr c38
              have c38b1 : (t157 != 5) = false := bne_eq_false_iff_eq.mpr c38
              clear c38
              replace H := Option.bind_eq_some_iff.mp H
              obtain ⟨t158, A390, H⟩ := H
              replace H : (if t158 = (-3) then ((bits_Flip.f 0).bind fun t159 => (if t159 = 9223372036854775808 then ((bits_Unflip.f 0).bind fun t160 => (some (t160 == (-9223372036854775808)))) else (some false))) else (some false)) = some r := H
              have A39 := Aside0.mk A390
              clear A390
              by_cases c40 : t158 = (-3)
              · rw [if_pos c40] at H
                have c40b0 : (t158 == (-3)) = true := beq_iff_eq.mpr c40
                have c40b1 : (t158 != (-3)) = false := bne_eq_false_iff_eq.mpr c40
                clear c40
                replace H := Option.bind_eq_some_iff.mp H
                obtain ⟨t159, A410, H⟩ := H
                replace H : (if t159 = 9223372036854775808 then ((bits_Unflip.f 0).bind fun t160 => (some (t160 == (-9223372036854775808)))) else (some false)) = some r := H
                have A41 := Aside0.mk A410
                clear A410
                by_cases c42 : t159 = 9223372036854775808
                · rw [if_pos c42] at H
                  have c42b0 : (t159 == 9223372036854775808) = true := beq_iff_eq.mpr c42
                  have c42b1 : (t159 != 9223372036854775808) = false := bne_eq_false_iff_eq.mpr c42
                  clear c42
                  replace H := Option.bind_eq_some_iff.mp H
                  obtain ⟨t160, A430, H⟩ := H
                  replace H : (some (t160 == (-9223372036854775808))) = some r := H
                  have A43 := Aside0.mk A430
                  clear A430
                  obtain rfl := Option.some.inj H
                  go_wp2_with (first | ((with_reducible refine gate_dst (N := 61) rfl ?_); (try (refine gate_guard (by rfl) ?_; dsimp only)); refine Kd.R_lit (Kd.int .u8) _ 5 ?hg (N := 61) ?hd (xs := ([213, 1] : List Int)) (inner := [.int .u8 213, .int .u8 1]) (ok := fun _ => True) (okp := fun _ => True) ?hr ?hp (fun _ hk => hk) trivial (Below.refl _ _) (Nat.le_refl _) (by simp) ?_; (case hd => rfl); (case hg => rfl); (case hr => first | (go_simp; done) | (go_simp; rfl)); (case hp => exact (Reps.one (show Kd.M (Kd.int .u8) _ _ _ 213 [.int .u8 213] from rfl) (Reps.one (show Kd.M (Kd.int .u8) _ _ _ 1 [.int .u8 1] from rfl) (Reps.none _ _)))); intro v150 w44 ho45 hb hg_ hnew_; clear hg_ hnew_; (first | rw [← Ny134.out] at ho45 | (simp only [Int.reduceToNat] at ho45; rw [← Ny134.out] at ho45)); have n0_ := Aside0.mk (Kd.R_elder' (by (with_reducible repeat (first | apply Kd.R_alloc | apply Kd.R_drewN | apply Kd.R_drew)); exact HO_1.out) (Kd.R_base ho45) hb); have n1_ := Aside0.mk (Kd.R_lower (Kd.R_new' ho45 (Kd.R_lt (by (with_reducible repeat (first | apply Kd.R_alloc | apply Kd.R_drewN | apply Kd.R_drew)); exact HO_1.out))) (below_size (by repeat (first | (with_reducible first | exact HB.out | apply below_alloc | apply pw_below_drewN | apply below_drew1) | exact HB.out)))); have n2_ := Aside0.mk (below_step (by repeat (first | (with_reducible first | exact HB.out | apply below_alloc | apply pw_below_drewN | apply below_drew1) | exact HB.out)) hb); clear HO_1; clear HB; have HO_1 := n0_; have HO151 := n1_; have HB := n2_; clear n0_ n1_ n2_; clear hb ho45; obtain ⟨Ao46, co46, eo46⟩ := Kd.R_slice HO_1.out; subst eo46; obtain ⟨Ao47, co47, eo47⟩ := Kd.R_slice HO151.out; subst eo47) | ((with_reducible refine gate_callee (f := 24) rfl ?_); refine goesL_ (some 62) rfl rfl Try.func24 (by kernel_rfl) rfl #[.slice Ao46 t130.length co46, .slice Ao47 y134.length co47] rfl (by (try simp only [List.map_toArray, List.map_cons, List.map_nil]); first | done | rfl | (simp only [List.length_drop, List.length_take]; rfl)) ?_; (with_reducible refine (stoaref01_Same.calls kj4 _ _ t130 _ _ y134 true _ ?side1 ?side2 ?side3 ?side4 A33.out).mono ?_); (case side1 => repeat (first | exact (Kd.R_reads' HO_1.out).2.2 | (with_reducible refine Kd.C_alloc ?_ _) | (with_reducible refine Kd.C_drewN ?_ _) | (with_reducible refine Kd.C_drew ?_))); (case side2 => exact (Kd.R_reads' HO_1.out).2.1); (case side3 => repeat (first | exact (Kd.R_reads' HO151.out).2.2 | (with_reducible refine Kd.C_alloc ?_ _) | (with_reducible refine Kd.C_drewN ?_ _) | (with_reducible refine Kd.C_drew ?_))); (case side4 => exact (Kd.R_reads' HO151.out).2.1); rintro e w' ⟨rfl, ⟨nd, rfl⟩⟩; refine ⟨_, rfl, ?_⟩) | ((with_reducible refine gate_dst (N := 64) rfl ?_); (try (refine gate_guard (by rfl) ?_; dsimp only)); refine Kd.R_lit (Kd.int .u64) _ 41 ?hg (N := 64) ?hd (xs := ([5, 2] : List Int)) (inner := [.int .u64 5, .int .u64 2]) (ok := fun _ => True) (okp := fun _ => True) ?hr ?hp (fun _ hk => hk) trivial (Below.refl _ _) (Nat.le_refl _) (by simp) ?_; (case hd => rfl); (case hg => rfl); (case hr => first | (go_simp; done) | (go_simp; rfl)); (case hp => exact (Reps.one (show Kd.M (Kd.int .u64) _ _ _ 5 [.int .u64 5] from rfl) (Reps.one (show Kd.M (Kd.int .u64) _ _ _ 2 [.int .u64 2] from rfl) (Reps.none _ _)))); intro v154 w48 ho49 hb hg_ hnew_; clear hg_ hnew_; (first | rw [← Ny153.out] at ho49 | (simp only [Int.reduceToNat] at ho49; rw [← Ny153.out] at ho49)); have n0_ := Aside0.mk (Kd.R_below (by (with_reducible repeat (first | apply Kd.R_alloc | apply Kd.R_drewN | apply Kd.R_drew)); exact HO_1.out) hb); have n1_ := Aside0.mk (Kd.R_below (by (with_reducible repeat (first | apply Kd.R_alloc | apply Kd.R_drewN | apply Kd.R_drew)); exact HO151.out) hb); have n2_ := Aside0.mk (Kd.R_lower ho49 (below_size (by repeat (first | (with_reducible first | exact HB.out | apply below_alloc | apply pw_below_drewN | apply below_drew1) | exact HB.out)))); have n3_ := Aside0.mk (below_step (by repeat (first | (with_reducible first | exact HB.out | apply below_alloc | apply pw_below_drewN | apply below_drew1) | exact HB.out)) hb); clear HO_1; clear HO151; clear HB; have HO_1 := n0_; have HO151 := n1_; have HO155 := n2_; have HB := n3_; clear n0_ n1_ n2_ n3_; clear hb ho49; obtain ⟨Ao50, co50, eo50⟩ := Kd.R_slice HO155.out; subst eo50) | (go_at_call 13; (with_reducible refine (bits_Width.calls kj4 _ _ y153 t156 _ ?side1 ?side2 A35.out).mono ?_); (case side1 => repeat (first | exact (Kd.R_reads' HO155.out).2.2 | (with_reducible refine Kd.C_alloc ?_ _) | (with_reducible refine Kd.C_drewN ?_ _) | (with_reducible refine Kd.C_drew ?_))); (case side2 => exact (Kd.R_reads' HO155.out).2.1); rintro e w' ⟨rfl, ⟨nd, rfl⟩⟩) | (go_at_call 27; (with_reducible refine (bits_Fold.calls (-3) t157 _ A37.out).mono ?_); rintro e w' ⟨rfl, ⟨nd, rfl⟩⟩) | (go_at_call 26; (with_reducible refine (bits_Unfold.calls 5 t158 _ A39.out).mono ?_); rintro e w' ⟨rfl, ⟨nd, rfl⟩⟩) | (go_at_call 29; (with_reducible refine (bits_Flip.calls 0 t159 _ A41.out).mono ?_); rintro e w' ⟨rfl, ⟨nd, rfl⟩⟩) | (go_at_call 28; (with_reducible refine (bits_Unflip.calls 0 t160 _ A43.out).mono ?_); rintro e w' ⟨rfl, ⟨nd, rfl⟩⟩))
                  go_ret
                  exact ⟨by first | rfl | (simp [errW_none, errW_some] <;> rfl) | (simp [*, errW_none, errW_some] <;> rfl), by repeat (first | (with_reducible first | exact HB.out | apply below_alloc | apply pw_below_drewN | apply below_drew1) | exact HB.out)⟩
                · rw [if_neg c42] at H
                  have c42b0 : (t159 == 9223372036854775808) = false := beq_eq_false_iff_ne.mpr c42
                  have c42b1 : (t159 != 9223372036854775808) = true := bne_iff_ne.mpr c42
                  obtain rfl := Option.some.inj H
                  go_wp2_with (first | ((with_reducible refine gate_dst (N := 61) rfl ?_); (try (refine gate_guard (by rfl) ?_; dsimp only)); refine Kd.R_lit (Kd.int .u8) _ 5 ?hg (N := 61) ?hd (xs := ([213, 1] : List Int)) (inner := [.int .u8 213, .int .u8 1]) (ok := fun _ => True) (okp := fun _ => True) ?hr ?hp (fun _ hk => hk) trivial (Below.refl _ _) (Nat.le_refl _) (by simp) ?_; (case hd => rfl); (case hg => rfl); (case hr => first | (go_simp; done) | (go_simp; rfl)); (case hp => exact (Reps.one (show Kd.M (Kd.int .u8) _ _ _ 213 [.int .u8 213] from rfl) (Reps.one (show Kd.M (Kd.int .u8) _ _ _ 1 [.int .u8 1] from rfl) (Reps.none _ _)))); intro v150 w51 ho52 hb hg_ hnew_; clear hg_ hnew_; (first | rw [← Ny134.out] at ho52 | (simp only [Int.reduceToNat] at ho52; rw [← Ny134.out] at ho52)); have n0_ := Aside0.mk (Kd.R_elder' (by (with_reducible repeat (first | apply Kd.R_alloc | apply Kd.R_drewN | apply Kd.R_drew)); exact HO_1.out) (Kd.R_base ho52) hb); have n1_ := Aside0.mk (Kd.R_lower (Kd.R_new' ho52 (Kd.R_lt (by (with_reducible repeat (first | apply Kd.R_alloc | apply Kd.R_drewN | apply Kd.R_drew)); exact HO_1.out))) (below_size (by repeat (first | (with_reducible first | exact HB.out | apply below_alloc | apply pw_below_drewN | apply below_drew1) | exact HB.out)))); have n2_ := Aside0.mk (below_step (by repeat (first | (with_reducible first | exact HB.out | apply below_alloc | apply pw_below_drewN | apply below_drew1) | exact HB.out)) hb); clear HO_1; clear HB; have HO_1 := n0_; have HO151 := n1_; have HB := n2_; clear n0_ n1_ n2_; clear hb ho52; obtain ⟨Ao53, co53, eo53⟩ := Kd.R_slice HO_1.out; subst eo53; obtain ⟨Ao54, co54, eo54⟩ := Kd.R_slice HO151.out; subst eo54) | ((with_reducible refine gate_callee (f := 24) rfl ?_); refine goesL_ (some 62) rfl rfl Try.func24 (by kernel_rfl) rfl #[.slice Ao53 t130.length co53, .slice Ao54 y134.length co54] rfl (by (try simp only [List.map_toArray, List.map_cons, List.map_nil]); first | done | rfl | (simp only [List.length_drop, List.length_take]; rfl)) ?_; (with_reducible refine (stoaref01_Same.calls kj4 _ _ t130 _ _ y134 true _ ?side1 ?side2 ?side3 ?side4 A33.out).mono ?_); (case side1 => repeat (first | exact (Kd.R_reads' HO_1.out).2.2 | (with_reducible refine Kd.C_alloc ?_ _) | (with_reducible refine Kd.C_drewN ?_ _) | (with_reducible refine Kd.C_drew ?_))); (case side2 => exact (Kd.R_reads' HO_1.out).2.1); (case side3 => repeat (first | exact (Kd.R_reads' HO151.out).2.2 | (with_reducible refine Kd.C_alloc ?_ _) | (with_reducible refine Kd.C_drewN ?_ _) | (with_reducible refine Kd.C_drew ?_))); (case side4 => exact (Kd.R_reads' HO151.out).2.1); rintro e w' ⟨rfl, ⟨nd, rfl⟩⟩; refine ⟨_, rfl, ?_⟩) | ((with_reducible refine gate_dst (N := 64) rfl ?_); (try (refine gate_guard (by rfl) ?_; dsimp only)); refine Kd.R_lit (Kd.int .u64) _ 41 ?hg (N := 64) ?hd (xs := ([5, 2] : List Int)) (inner := [.int .u64 5, .int .u64 2]) (ok := fun _ => True) (okp := fun _ => True) ?hr ?hp (fun _ hk => hk) trivial (Below.refl _ _) (Nat.le_refl _) (by simp) ?_; (case hd => rfl); (case hg => rfl); (case hr => first | (go_simp; done) | (go_simp; rfl)); (case hp => exact (Reps.one (show Kd.M (Kd.int .u64) _ _ _ 5 [.int .u64 5] from rfl) (Reps.one (show Kd.M (Kd.int .u64) _ _ _ 2 [.int .u64 2] from rfl) (Reps.none _ _)))); intro v154 w55 ho56 hb hg_ hnew_; clear hg_ hnew_; (first | rw [← Ny153.out] at ho56 | (simp only [Int.reduceToNat] at ho56; rw [← Ny153.out] at ho56)); have n0_ := Aside0.mk (Kd.R_below (by (with_reducible repeat (first | apply Kd.R_alloc | apply Kd.R_drewN | apply Kd.R_drew)); exact HO_1.out) hb); have n1_ := Aside0.mk (Kd.R_below (by (with_reducible repeat (first | apply Kd.R_alloc | apply Kd.R_drewN | apply Kd.R_drew)); exact HO151.out) hb); have n2_ := Aside0.mk (Kd.R_lower ho56 (below_size (by repeat (first | (with_reducible first | exact HB.out | apply below_alloc | apply pw_below_drewN | apply below_drew1) | exact HB.out)))); have n3_ := Aside0.mk (below_step (by repeat (first | (with_reducible first | exact HB.out | apply below_alloc | apply pw_below_drewN | apply below_drew1) | exact HB.out)) hb); clear HO_1; clear HO151; clear HB; have HO_1 := n0_; have HO151 := n1_; have HO155 := n2_; have HB := n3_; clear n0_ n1_ n2_ n3_; clear hb ho56; obtain ⟨Ao57, co57, eo57⟩ := Kd.R_slice HO155.out; subst eo57) | (go_at_call 13; (with_reducible refine (bits_Width.calls kj4 _ _ y153 t156 _ ?side1 ?side2 A35.out).mono ?_); (case side1 => repeat (first | exact (Kd.R_reads' HO155.out).2.2 | (with_reducible refine Kd.C_alloc ?_ _) | (with_reducible refine Kd.C_drewN ?_ _) | (with_reducible refine Kd.C_drew ?_))); (case side2 => exact (Kd.R_reads' HO155.out).2.1); rintro e w' ⟨rfl, ⟨nd, rfl⟩⟩) | (go_at_call 27; (with_reducible refine (bits_Fold.calls (-3) t157 _ A37.out).mono ?_); rintro e w' ⟨rfl, ⟨nd, rfl⟩⟩) | (go_at_call 26; (with_reducible refine (bits_Unfold.calls 5 t158 _ A39.out).mono ?_); rintro e w' ⟨rfl, ⟨nd, rfl⟩⟩) | (go_at_call 29; (with_reducible refine (bits_Flip.calls 0 t159 _ A41.out).mono ?_); rintro e w' ⟨rfl, ⟨nd, rfl⟩⟩))
                  go_ret
                  exact ⟨by first | rfl | (simp [errW_none, errW_some] <;> rfl) | (simp [*, errW_none, errW_some] <;> rfl), by repeat (first | (with_reducible first | exact HB.out | apply below_alloc | apply pw_below_drewN | apply below_drew1) | exact HB.out)⟩
              · rw [if_neg c40] at H
                have c40b0 : (t158 == (-3)) = false := beq_eq_false_iff_ne.mpr c40
                have c40b1 : (t158 != (-3)) = true := bne_iff_ne.mpr c40
                obtain rfl := Option.some.inj H
                go_wp2_with (first | ((with_reducible refine gate_dst (N := 61) rfl ?_); (try (refine gate_guard (by rfl) ?_; dsimp only)); refine Kd.R_lit (Kd.int .u8) _ 5 ?hg (N := 61) ?hd (xs := ([213, 1] : List Int)) (inner := [.int .u8 213, .int .u8 1]) (ok := fun _ => True) (okp := fun _ => True) ?hr ?hp (fun _ hk => hk) trivial (Below.refl _ _) (Nat.le_refl _) (by simp) ?_; (case hd => rfl); (case hg => rfl); (case hr => first | (go_simp; done) | (go_simp; rfl)); (case hp => exact (Reps.one (show Kd.M (Kd.int .u8) _ _ _ 213 [.int .u8 213] from rfl) (Reps.one (show Kd.M (Kd.int .u8) _ _ _ 1 [.int .u8 1] from rfl) (Reps.none _ _)))); intro v150 w58 ho59 hb hg_ hnew_; clear hg_ hnew_; (first | rw [← Ny134.out] at ho59 | (simp only [Int.reduceToNat] at ho59; rw [← Ny134.out] at ho59)); have n0_ := Aside0.mk (Kd.R_elder' (by (with_reducible repeat (first | apply Kd.R_alloc | apply Kd.R_drewN | apply Kd.R_drew)); exact HO_1.out) (Kd.R_base ho59) hb); have n1_ := Aside0.mk (Kd.R_lower (Kd.R_new' ho59 (Kd.R_lt (by (with_reducible repeat (first | apply Kd.R_alloc | apply Kd.R_drewN | apply Kd.R_drew)); exact HO_1.out))) (below_size (by repeat (first | (with_reducible first | exact HB.out | apply below_alloc | apply pw_below_drewN | apply below_drew1) | exact HB.out)))); have n2_ := Aside0.mk (below_step (by repeat (first | (with_reducible first | exact HB.out | apply below_alloc | apply pw_below_drewN | apply below_drew1) | exact HB.out)) hb); clear HO_1; clear HB; have HO_1 := n0_; have HO151 := n1_; have HB := n2_; clear n0_ n1_ n2_; clear hb ho59; obtain ⟨Ao60, co60, eo60⟩ := Kd.R_slice HO_1.out; subst eo60; obtain ⟨Ao61, co61, eo61⟩ := Kd.R_slice HO151.out; subst eo61) | ((with_reducible refine gate_callee (f := 24) rfl ?_); refine goesL_ (some 62) rfl rfl Try.func24 (by kernel_rfl) rfl #[.slice Ao60 t130.length co60, .slice Ao61 y134.length co61] rfl (by (try simp only [List.map_toArray, List.map_cons, List.map_nil]); first | done | rfl | (simp only [List.length_drop, List.length_take]; rfl)) ?_; (with_reducible refine (stoaref01_Same.calls kj4 _ _ t130 _ _ y134 true _ ?side1 ?side2 ?side3 ?side4 A33.out).mono ?_); (case side1 => repeat (first | exact (Kd.R_reads' HO_1.out).2.2 | (with_reducible refine Kd.C_alloc ?_ _) | (with_reducible refine Kd.C_drewN ?_ _) | (with_reducible refine Kd.C_drew ?_))); (case side2 => exact (Kd.R_reads' HO_1.out).2.1); (case side3 => repeat (first | exact (Kd.R_reads' HO151.out).2.2 | (with_reducible refine Kd.C_alloc ?_ _) | (with_reducible refine Kd.C_drewN ?_ _) | (with_reducible refine Kd.C_drew ?_))); (case side4 => exact (Kd.R_reads' HO151.out).2.1); rintro e w' ⟨rfl, ⟨nd, rfl⟩⟩; refine ⟨_, rfl, ?_⟩) | ((with_reducible refine gate_dst (N := 64) rfl ?_); (try (refine gate_guard (by rfl) ?_; dsimp only)); refine Kd.R_lit (Kd.int .u64) _ 41 ?hg (N := 64) ?hd (xs := ([5, 2] : List Int)) (inner := [.int .u64 5, .int .u64 2]) (ok := fun _ => True) (okp := fun _ => True) ?hr ?hp (fun _ hk => hk) trivial (Below.refl _ _) (Nat.le_refl _) (by simp) ?_; (case hd => rfl); (case hg => rfl); (case hr => first | (go_simp; done) | (go_simp; rfl)); (case hp => exact (Reps.one (show Kd.M (Kd.int .u64) _ _ _ 5 [.int .u64 5] from rfl) (Reps.one (show Kd.M (Kd.int .u64) _ _ _ 2 [.int .u64 2] from rfl) (Reps.none _ _)))); intro v154 w62 ho63 hb hg_ hnew_; clear hg_ hnew_; (first | rw [← Ny153.out] at ho63 | (simp only [Int.reduceToNat] at ho63; rw [← Ny153.out] at ho63)); have n0_ := Aside0.mk (Kd.R_below (by (with_reducible repeat (first | apply Kd.R_alloc | apply Kd.R_drewN | apply Kd.R_drew)); exact HO_1.out) hb); have n1_ := Aside0.mk (Kd.R_below (by (with_reducible repeat (first | apply Kd.R_alloc | apply Kd.R_drewN | apply Kd.R_drew)); exact HO151.out) hb); have n2_ := Aside0.mk (Kd.R_lower ho63 (below_size (by repeat (first | (with_reducible first | exact HB.out | apply below_alloc | apply pw_below_drewN | apply below_drew1) | exact HB.out)))); have n3_ := Aside0.mk (below_step (by repeat (first | (with_reducible first | exact HB.out | apply below_alloc | apply pw_below_drewN | apply below_drew1) | exact HB.out)) hb); clear HO_1; clear HO151; clear HB; have HO_1 := n0_; have HO151 := n1_; have HO155 := n2_; have HB := n3_; clear n0_ n1_ n2_ n3_; clear hb ho63; obtain ⟨Ao64, co64, eo64⟩ := Kd.R_slice HO155.out; subst eo64) | (go_at_call 13; (with_reducible refine (bits_Width.calls kj4 _ _ y153 t156 _ ?side1 ?side2 A35.out).mono ?_); (case side1 => repeat (first | exact (Kd.R_reads' HO155.out).2.2 | (with_reducible refine Kd.C_alloc ?_ _) | (with_reducible refine Kd.C_drewN ?_ _) | (with_reducible refine Kd.C_drew ?_))); (case side2 => exact (Kd.R_reads' HO155.out).2.1); rintro e w' ⟨rfl, ⟨nd, rfl⟩⟩) | (go_at_call 27; (with_reducible refine (bits_Fold.calls (-3) t157 _ A37.out).mono ?_); rintro e w' ⟨rfl, ⟨nd, rfl⟩⟩) | (go_at_call 26; (with_reducible refine (bits_Unfold.calls 5 t158 _ A39.out).mono ?_); rintro e w' ⟨rfl, ⟨nd, rfl⟩⟩))
                go_ret
                exact ⟨by first | rfl | (simp [errW_none, errW_some] <;> rfl) | (simp [*, errW_none, errW_some] <;> rfl), by repeat (first | (with_reducible first | exact HB.out | apply below_alloc | apply pw_below_drewN | apply below_drew1) | exact HB.out)⟩
            · rw [if_neg c38] at H
              have c38b0 : (t157 == 5) = false := beq_eq_false_iff_ne.mpr c38
              have c38b1 : (t157 != 5) = true := bne_iff_ne.mpr c38
              obtain rfl := Option.some.inj H
              go_wp2_with (first | ((with_reducible refine gate_dst (N := 61) rfl ?_); (try (refine gate_guard (by rfl) ?_; dsimp only)); refine Kd.R_lit (Kd.int .u8) _ 5 ?hg (N := 61) ?hd (xs := ([213, 1] : List Int)) (inner := [.int .u8 213, .int .u8 1]) (ok := fun _ => True) (okp := fun _ => True) ?hr ?hp (fun _ hk => hk) trivial (Below.refl _ _) (Nat.le_refl _) (by simp) ?_; (case hd => rfl); (case hg => rfl); (case hr => first | (go_simp; done) | (go_simp; rfl)); (case hp => exact (Reps.one (show Kd.M (Kd.int .u8) _ _ _ 213 [.int .u8 213] from rfl) (Reps.one (show Kd.M (Kd.int .u8) _ _ _ 1 [.int .u8 1] from rfl) (Reps.none _ _)))); intro v150 w65 ho66 hb hg_ hnew_; clear hg_ hnew_; (first | rw [← Ny134.out] at ho66 | (simp only [Int.reduceToNat] at ho66; rw [← Ny134.out] at ho66)); have n0_ := Aside0.mk (Kd.R_elder' (by (with_reducible repeat (first | apply Kd.R_alloc | apply Kd.R_drewN | apply Kd.R_drew)); exact HO_1.out) (Kd.R_base ho66) hb); have n1_ := Aside0.mk (Kd.R_lower (Kd.R_new' ho66 (Kd.R_lt (by (with_reducible repeat (first | apply Kd.R_alloc | apply Kd.R_drewN | apply Kd.R_drew)); exact HO_1.out))) (below_size (by repeat (first | (with_reducible first | exact HB.out | apply below_alloc | apply pw_below_drewN | apply below_drew1) | exact HB.out)))); have n2_ := Aside0.mk (below_step (by repeat (first | (with_reducible first | exact HB.out | apply below_alloc | apply pw_below_drewN | apply below_drew1) | exact HB.out)) hb); clear HO_1; clear HB; have HO_1 := n0_; have HO151 := n1_; have HB := n2_; clear n0_ n1_ n2_; clear hb ho66; obtain ⟨Ao67, co67, eo67⟩ := Kd.R_slice HO_1.out; subst eo67; obtain ⟨Ao68, co68, eo68⟩ := Kd.R_slice HO151.out; subst eo68) | ((with_reducible refine gate_callee (f := 24) rfl ?_); refine goesL_ (some 62) rfl rfl Try.func24 (by kernel_rfl) rfl #[.slice Ao67 t130.length co67, .slice Ao68 y134.length co68] rfl (by (try simp only [List.map_toArray, List.map_cons, List.map_nil]); first | done | rfl | (simp only [List.length_drop, List.length_take]; rfl)) ?_; (with_reducible refine (stoaref01_Same.calls kj4 _ _ t130 _ _ y134 true _ ?side1 ?side2 ?side3 ?side4 A33.out).mono ?_); (case side1 => repeat (first | exact (Kd.R_reads' HO_1.out).2.2 | (with_reducible refine Kd.C_alloc ?_ _) | (with_reducible refine Kd.C_drewN ?_ _) | (with_reducible refine Kd.C_drew ?_))); (case side2 => exact (Kd.R_reads' HO_1.out).2.1); (case side3 => repeat (first | exact (Kd.R_reads' HO151.out).2.2 | (with_reducible refine Kd.C_alloc ?_ _) | (with_reducible refine Kd.C_drewN ?_ _) | (with_reducible refine Kd.C_drew ?_))); (case side4 => exact (Kd.R_reads' HO151.out).2.1); rintro e w' ⟨rfl, ⟨nd, rfl⟩⟩; refine ⟨_, rfl, ?_⟩) | ((with_reducible refine gate_dst (N := 64) rfl ?_); (try (refine gate_guard (by rfl) ?_; dsimp only)); refine Kd.R_lit (Kd.int .u64) _ 41 ?hg (N := 64) ?hd (xs := ([5, 2] : List Int)) (inner := [.int .u64 5, .int .u64 2]) (ok := fun _ => True) (okp := fun _ => True) ?hr ?hp (fun _ hk => hk) trivial (Below.refl _ _) (Nat.le_refl _) (by simp) ?_; (case hd => rfl); (case hg => rfl); (case hr => first | (go_simp; done) | (go_simp; rfl)); (case hp => exact (Reps.one (show Kd.M (Kd.int .u64) _ _ _ 5 [.int .u64 5] from rfl) (Reps.one (show Kd.M (Kd.int .u64) _ _ _ 2 [.int .u64 2] from rfl) (Reps.none _ _)))); intro v154 w69 ho70 hb hg_ hnew_; clear hg_ hnew_; (first | rw [← Ny153.out] at ho70 | (simp only [Int.reduceToNat] at ho70; rw [← Ny153.out] at ho70)); have n0_ := Aside0.mk (Kd.R_below (by (with_reducible repeat (first | apply Kd.R_alloc | apply Kd.R_drewN | apply Kd.R_drew)); exact HO_1.out) hb); have n1_ := Aside0.mk (Kd.R_below (by (with_reducible repeat (first | apply Kd.R_alloc | apply Kd.R_drewN | apply Kd.R_drew)); exact HO151.out) hb); have n2_ := Aside0.mk (Kd.R_lower ho70 (below_size (by repeat (first | (with_reducible first | exact HB.out | apply below_alloc | apply pw_below_drewN | apply below_drew1) | exact HB.out)))); have n3_ := Aside0.mk (below_step (by repeat (first | (with_reducible first | exact HB.out | apply below_alloc | apply pw_below_drewN | apply below_drew1) | exact HB.out)) hb); clear HO_1; clear HO151; clear HB; have HO_1 := n0_; have HO151 := n1_; have HO155 := n2_; have HB := n3_; clear n0_ n1_ n2_ n3_; clear hb ho70; obtain ⟨Ao71, co71, eo71⟩ := Kd.R_slice HO155.out; subst eo71) | (go_at_call 13; (with_reducible refine (bits_Width.calls kj4 _ _ y153 t156 _ ?side1 ?side2 A35.out).mono ?_); (case side1 => repeat (first | exact (Kd.R_reads' HO155.out).2.2 | (with_reducible refine Kd.C_alloc ?_ _) | (with_reducible refine Kd.C_drewN ?_ _) | (with_reducible refine Kd.C_drew ?_))); (case side2 => exact (Kd.R_reads' HO155.out).2.1); rintro e w' ⟨rfl, ⟨nd, rfl⟩⟩) | (go_at_call 27; (with_reducible refine (bits_Fold.calls (-3) t157 _ A37.out).mono ?_); rintro e w' ⟨rfl, ⟨nd, rfl⟩⟩))
              go_ret
              exact ⟨by first | rfl | (simp [errW_none, errW_some] <;> rfl) | (simp [*, errW_none, errW_some] <;> rfl), by repeat (first | (with_reducible first | exact HB.out | apply below_alloc | apply pw_below_drewN | apply below_drew1) | exact HB.out)⟩
          · rw [if_neg c36] at H
            have c36b0 : (t156 == 3) = false := beq_eq_false_iff_ne.mpr c36
            have c36b1 : (t156 != 3) = true := bne_iff_ne.mpr c36
            obtain rfl := Option.some.inj H
            go_wp2_with (first | ((with_reducible refine gate_dst (N := 61) rfl ?_); (try (refine gate_guard (by rfl) ?_; dsimp only)); refine Kd.R_lit (Kd.int .u8) _ 5 ?hg (N := 61) ?hd (xs := ([213, 1] : List Int)) (inner := [.int .u8 213, .int .u8 1]) (ok := fun _ => True) (okp := fun _ => True) ?hr ?hp (fun _ hk => hk) trivial (Below.refl _ _) (Nat.le_refl _) (by simp) ?_; (case hd => rfl); (case hg => rfl); (case hr => first | (go_simp; done) | (go_simp; rfl)); (case hp => exact (Reps.one (show Kd.M (Kd.int .u8) _ _ _ 213 [.int .u8 213] from rfl) (Reps.one (show Kd.M (Kd.int .u8) _ _ _ 1 [.int .u8 1] from rfl) (Reps.none _ _)))); intro v150 w72 ho73 hb hg_ hnew_; clear hg_ hnew_; (first | rw [← Ny134.out] at ho73 | (simp only [Int.reduceToNat] at ho73; rw [← Ny134.out] at ho73)); have n0_ := Aside0.mk (Kd.R_elder' (by (with_reducible repeat (first | apply Kd.R_alloc | apply Kd.R_drewN | apply Kd.R_drew)); exact HO_1.out) (Kd.R_base ho73) hb); have n1_ := Aside0.mk (Kd.R_lower (Kd.R_new' ho73 (Kd.R_lt (by (with_reducible repeat (first | apply Kd.R_alloc | apply Kd.R_drewN | apply Kd.R_drew)); exact HO_1.out))) (below_size (by repeat (first | (with_reducible first | exact HB.out | apply below_alloc | apply pw_below_drewN | apply below_drew1) | exact HB.out)))); have n2_ := Aside0.mk (below_step (by repeat (first | (with_reducible first | exact HB.out | apply below_alloc | apply pw_below_drewN | apply below_drew1) | exact HB.out)) hb); clear HO_1; clear HB; have HO_1 := n0_; have HO151 := n1_; have HB := n2_; clear n0_ n1_ n2_; clear hb ho73; obtain ⟨Ao74, co74, eo74⟩ := Kd.R_slice HO_1.out; subst eo74; obtain ⟨Ao75, co75, eo75⟩ := Kd.R_slice HO151.out; subst eo75) | ((with_reducible refine gate_callee (f := 24) rfl ?_); refine goesL_ (some 62) rfl rfl Try.func24 (by kernel_rfl) rfl #[.slice Ao74 t130.length co74, .slice Ao75 y134.length co75] rfl (by (try simp only [List.map_toArray, List.map_cons, List.map_nil]); first | done | rfl | (simp only [List.length_drop, List.length_take]; rfl)) ?_; (with_reducible refine (stoaref01_Same.calls kj4 _ _ t130 _ _ y134 true _ ?side1 ?side2 ?side3 ?side4 A33.out).mono ?_); (case side1 => repeat (first | exact (Kd.R_reads' HO_1.out).2.2 | (with_reducible refine Kd.C_alloc ?_ _) | (with_reducible refine Kd.C_drewN ?_ _) | (with_reducible refine Kd.C_drew ?_))); (case side2 => exact (Kd.R_reads' HO_1.out).2.1); (case side3 => repeat (first | exact (Kd.R_reads' HO151.out).2.2 | (with_reducible refine Kd.C_alloc ?_ _) | (with_reducible refine Kd.C_drewN ?_ _) | (with_reducible refine Kd.C_drew ?_))); (case side4 => exact (Kd.R_reads' HO151.out).2.1); rintro e w' ⟨rfl, ⟨nd, rfl⟩⟩; refine ⟨_, rfl, ?_⟩) | ((with_reducible refine gate_dst (N := 64) rfl ?_); (try (refine gate_guard (by rfl) ?_; dsimp only)); refine Kd.R_lit (Kd.int .u64) _ 41 ?hg (N := 64) ?hd (xs := ([5, 2] : List Int)) (inner := [.int .u64 5, .int .u64 2]) (ok := fun _ => True) (okp := fun _ => True) ?hr ?hp (fun _ hk => hk) trivial (Below.refl _ _) (Nat.le_refl _) (by simp) ?_; (case hd => rfl); (case hg => rfl); (case hr => first | (go_simp; done) | (go_simp; rfl)); (case hp => exact (Reps.one (show Kd.M (Kd.int .u64) _ _ _ 5 [.int .u64 5] from rfl) (Reps.one (show Kd.M (Kd.int .u64) _ _ _ 2 [.int .u64 2] from rfl) (Reps.none _ _)))); intro v154 w76 ho77 hb hg_ hnew_; clear hg_ hnew_; (first | rw [← Ny153.out] at ho77 | (simp only [Int.reduceToNat] at ho77; rw [← Ny153.out] at ho77)); have n0_ := Aside0.mk (Kd.R_below (by (with_reducible repeat (first | apply Kd.R_alloc | apply Kd.R_drewN | apply Kd.R_drew)); exact HO_1.out) hb); have n1_ := Aside0.mk (Kd.R_below (by (with_reducible repeat (first | apply Kd.R_alloc | apply Kd.R_drewN | apply Kd.R_drew)); exact HO151.out) hb); have n2_ := Aside0.mk (Kd.R_lower ho77 (below_size (by repeat (first | (with_reducible first | exact HB.out | apply below_alloc | apply pw_below_drewN | apply below_drew1) | exact HB.out)))); have n3_ := Aside0.mk (below_step (by repeat (first | (with_reducible first | exact HB.out | apply below_alloc | apply pw_below_drewN | apply below_drew1) | exact HB.out)) hb); clear HO_1; clear HO151; clear HB; have HO_1 := n0_; have HO151 := n1_; have HO155 := n2_; have HB := n3_; clear n0_ n1_ n2_ n3_; clear hb ho77; obtain ⟨Ao78, co78, eo78⟩ := Kd.R_slice HO155.out; subst eo78) | (go_at_call 13; (with_reducible refine (bits_Width.calls kj4 _ _ y153 t156 _ ?side1 ?side2 A35.out).mono ?_); (case side1 => repeat (first | exact (Kd.R_reads' HO155.out).2.2 | (with_reducible refine Kd.C_alloc ?_ _) | (with_reducible refine Kd.C_drewN ?_ _) | (with_reducible refine Kd.C_drew ?_))); (case side2 => exact (Kd.R_reads' HO155.out).2.1); rintro e w' ⟨rfl, ⟨nd, rfl⟩⟩))
            go_ret
            exact ⟨by first | rfl | (simp [errW_none, errW_some] <;> rfl) | (simp [*, errW_none, errW_some] <;> rfl), by repeat (first | (with_reducible first | exact HB.out | apply below_alloc | apply pw_below_drewN | apply below_drew1) | exact HB.out)⟩
        · replace c34 := Bool.eq_false_iff.mpr c34
          subst c34
          have H1 : (some false) = some r := by rw [if_neg (show ¬ (false = true) by decide)] at H; exact H
          clear H
          have H := H1
          clear H1
          obtain rfl := Option.some.inj H
          go_wp2_with (first | ((with_reducible refine gate_dst (N := 61) rfl ?_); (try (refine gate_guard (by rfl) ?_; dsimp only)); refine Kd.R_lit (Kd.int .u8) _ 5 ?hg (N := 61) ?hd (xs := ([213, 1] : List Int)) (inner := [.int .u8 213, .int .u8 1]) (ok := fun _ => True) (okp := fun _ => True) ?hr ?hp (fun _ hk => hk) trivial (Below.refl _ _) (Nat.le_refl _) (by simp) ?_; (case hd => rfl); (case hg => rfl); (case hr => first | (go_simp; done) | (go_simp; rfl)); (case hp => exact (Reps.one (show Kd.M (Kd.int .u8) _ _ _ 213 [.int .u8 213] from rfl) (Reps.one (show Kd.M (Kd.int .u8) _ _ _ 1 [.int .u8 1] from rfl) (Reps.none _ _)))); intro v150 w79 ho80 hb hg_ hnew_; clear hg_ hnew_; (first | rw [← Ny134.out] at ho80 | (simp only [Int.reduceToNat] at ho80; rw [← Ny134.out] at ho80)); have n0_ := Aside0.mk (Kd.R_elder' (by (with_reducible repeat (first | apply Kd.R_alloc | apply Kd.R_drewN | apply Kd.R_drew)); exact HO_1.out) (Kd.R_base ho80) hb); have n1_ := Aside0.mk (Kd.R_lower (Kd.R_new' ho80 (Kd.R_lt (by (with_reducible repeat (first | apply Kd.R_alloc | apply Kd.R_drewN | apply Kd.R_drew)); exact HO_1.out))) (below_size (by repeat (first | (with_reducible first | exact HB.out | apply below_alloc | apply pw_below_drewN | apply below_drew1) | exact HB.out)))); have n2_ := Aside0.mk (below_step (by repeat (first | (with_reducible first | exact HB.out | apply below_alloc | apply pw_below_drewN | apply below_drew1) | exact HB.out)) hb); clear HO_1; clear HB; have HO_1 := n0_; have HO151 := n1_; have HB := n2_; clear n0_ n1_ n2_; clear hb ho80; obtain ⟨Ao81, co81, eo81⟩ := Kd.R_slice HO_1.out; subst eo81; obtain ⟨Ao82, co82, eo82⟩ := Kd.R_slice HO151.out; subst eo82) | ((with_reducible refine gate_callee (f := 24) rfl ?_); refine goesL_ (some 62) rfl rfl Try.func24 (by kernel_rfl) rfl #[.slice Ao81 t130.length co81, .slice Ao82 y134.length co82] rfl (by (try simp only [List.map_toArray, List.map_cons, List.map_nil]); first | done | rfl | (simp only [List.length_drop, List.length_take]; rfl)) ?_; (with_reducible refine (stoaref01_Same.calls kj4 _ _ t130 _ _ y134 false _ ?side1 ?side2 ?side3 ?side4 A33.out).mono ?_); (case side1 => repeat (first | exact (Kd.R_reads' HO_1.out).2.2 | (with_reducible refine Kd.C_alloc ?_ _) | (with_reducible refine Kd.C_drewN ?_ _) | (with_reducible refine Kd.C_drew ?_))); (case side2 => exact (Kd.R_reads' HO_1.out).2.1); (case side3 => repeat (first | exact (Kd.R_reads' HO151.out).2.2 | (with_reducible refine Kd.C_alloc ?_ _) | (with_reducible refine Kd.C_drewN ?_ _) | (with_reducible refine Kd.C_drew ?_))); (case side4 => exact (Kd.R_reads' HO151.out).2.1); rintro e w' ⟨rfl, ⟨nd, rfl⟩⟩; refine ⟨_, rfl, ?_⟩))
          go_ret
          exact ⟨by first | rfl | (simp [errW_none, errW_some] <;> rfl) | (simp [*, errW_none, errW_some] <;> rfl), by repeat (first | (with_reducible first | exact HB.out | apply below_alloc | apply pw_below_drewN | apply below_drew1) | exact HB.out)⟩

/-! ### stoaref01_CopyNumbers: function 10 -/
def stoaref01_CopyNumbers.l0 : Nat → List Int → List Int → Int → Option (List Int)
  | 0, _, _, _ => none
  | k + 1, x0, x3, x4 => if x4 < (x0.length : Int) then (if 0 ≤ x4 then (if x3.length < 17592186044416 then (stoaref01_CopyNumbers.l0 k x0 (x3 ++ [rd x0 x4]) (wrap64 (x4 + 1))) else (none)) else (none)) else (some x3)
def stoaref01_CopyNumbers.f (k : Nat) (l0 : List Int) : Option (List Int) := stoaref01_CopyNumbers.l0 k l0 (([] : List Int)) 0
theorem stoaref01_CopyNumbers.mono_l : ∀ k, (∀ y0 y1 y2, LeO (stoaref01_CopyNumbers.l0 k y0 y1 y2) (stoaref01_CopyNumbers.l0 (k + 1) y0 y1 y2))
  | 0 => fun _ _ _ r h => by simp [stoaref01_CopyNumbers.l0] at h
  | k + 1 => by
    have ih0 := stoaref01_CopyNumbers.mono_l k
    · intro y0 y1 y2
      unfold stoaref01_CopyNumbers.l0
      repeat' first
      | (with_reducible exact ih0 _ _ _)
      | (with_reducible exact LeO.refl _)
      | (with_reducible exact LeO.none _)
      | (with_reducible refine LeO.ite ?_ ?_)
      | (with_reducible refine LeO.bind ?_ (fun _ => ?_))
      | exact ih0 _ _ _
      | exact LeO.none _
      | refine LeO.ite ?_ ?_
      | refine LeO.bind ?_ (fun _ => ?_)
theorem stoaref01_CopyNumbers.mono : ∀ a0 k, LeO (stoaref01_CopyNumbers.f k a0) (stoaref01_CopyNumbers.f (k + 1) a0) := by
  intro a0 k
  have ih0 := stoaref01_CopyNumbers.mono_l k
  unfold stoaref01_CopyNumbers.f
  repeat' first
      | (with_reducible exact ih0 _ _ _)
      | (with_reducible exact LeO.refl _)
      | (with_reducible exact LeO.none _)
      | (with_reducible refine LeO.ite ?_ ?_)
      | (with_reducible refine LeO.bind ?_ (fun _ => ?_))
      | exact ih0 _ _ _
      | exact LeO.none _
      | refine LeO.ite ?_ ?_
      | refine LeO.bind ?_ (fun _ => ?_)
set_option maxHeartbeats 8000000 in
set_option maxRecDepth 100000 in
theorem stoaref01_CopyNumbers.calls (k : Nat) (A0 : Option Addr) (c0 : Nat) (l0 : List Int) (r : List Int) (w : World) (hr0 : Kd.C (Kd.int .u64) w A0 l0.length l0) (hc0 : l0.length ≤ c0) (h : stoaref01_CopyNumbers.f k l0 = some r) :
    Calls Try.prog 10 #[.slice A0 l0.length c0] w fun e w' => ∃ v0_ : Value, e = .returned (v0_) ∧ Kd.R (Kd.int .u64) 41 w' w.heap.size (fun _ => True) v0_ r ∧ Below w.heap.size w w' := by
  have HR0 := Aside0.mk hr0
  have HC0 := Aside0.mk hc0
  clear hr0 hc0
  have HB := Aside0.mk (Below.refl w.heap.size w)
  have H : (stoaref01_CopyNumbers.l0 k l0 (([] : List Int)) 0) = some r := h
  clear h
  obtain ⟨y161, hy161⟩ : ∃ y_ : List Int, y_ = (([] : List Int)) := ⟨_, rfl⟩
  replace H : (stoaref01_CopyNumbers.l0 k l0 y161 0) = some r := by first | (rw [hy161]; with_reducible exact H) | (have H2_ := (Option.bind_some _ _).symm.trans H; rw [hy161]; with_reducible exact H2_) | (have H2_ := (Option.bind_some _ _).symm.trans H; with_reducible exact H2_) | with_reducible exact H | (rw [hy161]; exact H) | exact H
  have Ny161 := Aside0.mk hy161
  clear hy161
  have H' := Aside0.mk H
  clear H
  go_enter Try.func10, Try.ntmps10
  go_wp2_with (first | ((with_reducible refine gate_dst (N := 5) rfl ?_); refine Kd.R_lit (Kd.int .u64) _ 41 ?hg (N := 5) ?hd (xs := ([] : List Int)) (inner := []) (ok := fun _ => True) (okp := fun _ => True) ?hr ?hp (fun _ hk => hk) trivial (Below.refl _ _) (Nat.le_refl _) (by simp) ?_; (case hd => rfl); (case hg => rfl); (case hr => first | (go_simp; done) | (go_simp; rfl)); (case hp => exact (Reps.none _ _)); intro v162 w2 ho3 hb hg_ hnew_; clear hg_ hnew_; (first | rw [← Ny161.out] at ho3 | (simp only [Int.reduceToNat] at ho3; rw [← Ny161.out] at ho3)); have n0_ := Aside0.mk (Kd.R_lower ho3 (below_size (by repeat (first | (with_reducible first | exact HB.out | apply below_alloc | apply pw_below_drewN | apply below_drew1) | exact HB.out)))); have n1_ := Aside0.mk (below_step (by repeat (first | (with_reducible first | exact HB.out | apply below_alloc | apply pw_below_drewN | apply below_drew1) | exact HB.out)) hb); clear HB; have HO163 := n0_; have HB := n1_; clear n0_ n1_; clear hb ho3))
  go_loopg [3, 4] k (fun kq v3 v4 w' => ∃ (x3_1 : List Int) (x4_1 : Int), v4 = .int .i64 x4_1 ∧ Aside0 (stoaref01_CopyNumbers.l0 kq l0 x3_1 x4_1 = some r) ∧ Aside0 (kq ≤ k) ∧ Aside0 (Kd.R (Kd.int .u64) 41 w' w.heap.size (fun _ => True) v3 x3_1) ∧ Aside0 (Below w.heap.size w w'))
  case atStart => exact ⟨(y161), (0), (by first | rfl | (simp; done) | (simp [*]; done)), H', ⟨Nat.le_refl _⟩, ⟨by (with_reducible repeat (first | apply Kd.R_alloc | apply Kd.R_drewN | apply Kd.R_drew)); exact HO163.out⟩, ⟨by repeat (first | (with_reducible first | exact HB.out | apply below_alloc | apply pw_below_drewN | apply below_drew1) | exact HB.out)⟩⟩
  case round =>
    clear H'
    try clear c1
    try clear p2
    obtain ⟨x3_1, x4_1, rfl, HA, HK1, HO_3, HB⟩ := hrel
    cases gk with
    | zero => exact absurd HA.out (by simp [stoaref01_CopyNumbers.l0])
    | succ k1 =>
      have H := HA.out
      clear HA
      simp only [stoaref01_CopyNumbers.l0] at H
      by_cases c4 : x4_1 < (l0.length : Int)
      · rw [if_pos c4] at H
        have c4b0 : decide (x4_1 < (l0.length : Int)) = true := decide_eq_true c4
        clear c4
        by_cases c5 : 0 ≤ x4_1
        · rw [if_pos c5] at H
          have c5b0 : decide (0 ≤ x4_1) = true := decide_eq_true c5
          clear c5
          by_cases c6 : x3_1.length < 17592186044416
          · rw [if_pos c6] at H
            have LMc6 := Aside0.mk c6
            clear c6
            obtain ⟨y165, hy165⟩ : ∃ y_ : List Int, y_ = (x3_1 ++ [rd l0 x4_1]) := ⟨_, rfl⟩
            replace H : (stoaref01_CopyNumbers.l0 k1 l0 y165 (wrap64 (x4_1 + 1))) = some r := by first | (rw [hy165]; with_reducible exact H) | (have H2_ := (Option.bind_some _ _).symm.trans H; rw [hy165]; with_reducible exact H2_) | (have H2_ := (Option.bind_some _ _).symm.trans H; with_reducible exact H2_) | with_reducible exact H | (rw [hy165]; exact H) | exact H
            have Ny165 := Aside0.mk hy165
            clear hy165
            have H' := Aside0.mk H
            clear H
            have p164 : 0 ≤ (x4_1 : Int) := of_decide_eq_true (by first | (with_reducible assumption) | assumption)
            have q164 : x4_1 < (l0.length : Int) := of_decide_eq_true (by first | (with_reducible assumption) | assumption)
            obtain ⟨ad164, e164, hx164_0⟩ := Kd.at_int HR0.out x4_1 p164 q164
            cases e164
            replace hx164_0 := (HB.out.cell (World.block_lt_of_cell? w _ hx164_0)).trans hx164_0
            replace p164 := eq_true p164
            replace q164 := eq_true q164
            go_wp2_with (first | ((with_reducible refine gate_builtin (b := .append) (xs := #[.tmp 12, .tmp 17]) rfl ?_); at_builtin; refine Kd.R_append (Kd.int .u64) (w0 := w) w.heap.size rfl (.tmp 12) (.tmp 17) 22 41 (.int .u64 0) 8 rfl Try.underlying22 info41 rfl (by decide) (by omega) u3 x3_1 (rd l0 x4_1) [.int .u64 (rd l0 x4_1)] (fun _ => True) (fun _ => False) rfl rfl ?aP (fun _ hk => hk.elim) ?aF ?aO ?aB ?aS ?aL ?_; (case aP => exact rfl); (case aB => exact (by repeat (first | (with_reducible first | exact HB.out | apply below_alloc | apply pw_below_drewN | apply below_drew1) | exact HB.out))); (case aF => exact (fun _ _ => trivial)); (case aO => exact (by (with_reducible repeat (first | apply Kd.R_alloc | apply Kd.R_drewN | apply Kd.R_drew)); exact HO_3.out)); (case aS => exact (below_size (by repeat (first | (with_reducible first | exact HB.out | apply below_alloc | apply pw_below_drewN | apply below_drew1) | exact HB.out)))); (case aL => have := LMc6.out; omega); intro v166 w7 ho hb hg hat; rw [← Ny165.out] at ho; have n0_ := Aside0.mk (hb); have n1_ := Aside0.mk (ho); clear HB; clear HO_3; have HB := n0_; have HO167 := n1_; clear n0_ n1_; clear ho hb hg hat))
            go_roundg k1
            case measure => have := HK1.out; omega
            case rel => exact ⟨(y165), (wrap64 (x4_1 + 1)), (by first | rfl | (simp; done) | (simp [*]; done)), H', ⟨by have := HK1.out; omega⟩, ⟨by (with_reducible repeat (first | apply Kd.R_alloc | apply Kd.R_drewN | apply Kd.R_drew)); exact HO167.out⟩, ⟨by repeat (first | (with_reducible first | exact HB.out | apply below_alloc | apply pw_below_drewN | apply below_drew1) | exact HB.out)⟩⟩
          · rw [if_neg c6] at H
            exact absurd H (by simp)
        · rw [if_neg c5] at H
          exact absurd H (by simp)
      · rw [if_neg c4] at H
        have c4b0 : decide (x4_1 < (l0.length : Int)) = false := decide_eq_false c4
        clear c4
        obtain rfl := Option.some.inj H
        go_wp2
        go_ret
        exact ⟨_, by first | rfl | (simp [errW_none, errW_some] <;> rfl) | (simp [*, errW_none, errW_some] <;> rfl), by (with_reducible repeat (first | apply Kd.R_alloc | apply Kd.R_drewN | apply Kd.R_drew)); exact HO_3.out, by repeat (first | (with_reducible first | exact HB.out | apply below_alloc | apply pw_below_drewN | apply below_drew1) | exact HB.out)⟩

/-! ### stoaref01_Width: function 14 -/
mutual
def stoaref01_Width.l0 : Nat → List Int → Int → Int → Option (Int)
  | 0, _, _, _ => none
  | k + 1, x0, x3, x4 => if x4 < (x0.length : Int) then (if 0 ≤ x4 then (stoaref01_Width.l1 k x0 x3 x4 0 (rd x0 x4)) else (none)) else (some x3)
def stoaref01_Width.l1 : Nat → List Int → Int → Int → Int → Int → Option (Int)
  | 0, _, _, _, _, _ => none
  | k + 1, x0, x3, x4, x5, x6 => if x6 > 0 then (stoaref01_Width.l1 k x0 x3 x4 (wrap64 (x5 + 1)) (IntKind.u64.wrap (Int.tdiv x6 2))) else (if x5 > x3 then (stoaref01_Width.l0 k x0 x5 (wrap64 (x4 + 1))) else (stoaref01_Width.l0 k x0 x3 (wrap64 (x4 + 1))))
end
def stoaref01_Width.f (k : Nat) (l0 : List Int) : Option (Int) := stoaref01_Width.l0 k l0 0 0
theorem stoaref01_Width.mono_l : ∀ k, (∀ y0 y1 y2, LeO (stoaref01_Width.l0 k y0 y1 y2) (stoaref01_Width.l0 (k + 1) y0 y1 y2)) ∧ (∀ y0 y1 y2 y3 y4, LeO (stoaref01_Width.l1 k y0 y1 y2 y3 y4) (stoaref01_Width.l1 (k + 1) y0 y1 y2 y3 y4))
  | 0 => ⟨fun _ _ _ r h => by simp [stoaref01_Width.l0] at h, fun _ _ _ _ _ r h => by simp [stoaref01_Width.l1] at h⟩
  | k + 1 => by
    obtain ⟨ih0, ih1⟩ := stoaref01_Width.mono_l k
    refine ⟨?_, ?_⟩
    · intro y0 y1 y2
      unfold stoaref01_Width.l0
      repeat' first
      | (with_reducible exact ih0 _ _ _)
      | (with_reducible exact ih1 _ _ _ _ _)
      | (with_reducible exact LeO.refl _)
      | (with_reducible exact LeO.none _)
      | (with_reducible refine LeO.ite ?_ ?_)
      | (with_reducible refine LeO.bind ?_ (fun _ => ?_))
      | exact ih0 _ _ _
      | exact ih1 _ _ _ _ _
      | exact LeO.none _
      | refine LeO.ite ?_ ?_
      | refine LeO.bind ?_ (fun _ => ?_)
    · intro y0 y1 y2 y3 y4
      unfold stoaref01_Width.l1
      repeat' first
      | (with_reducible exact ih0 _ _ _)
      | (with_reducible exact ih1 _ _ _ _ _)
      | (with_reducible exact LeO.refl _)
      | (with_reducible exact LeO.none _)
      | (with_reducible refine LeO.ite ?_ ?_)
      | (with_reducible refine LeO.bind ?_ (fun _ => ?_))
      | exact ih0 _ _ _
      | exact ih1 _ _ _ _ _
      | exact LeO.none _
      | refine LeO.ite ?_ ?_
      | refine LeO.bind ?_ (fun _ => ?_)
theorem stoaref01_Width.mono : ∀ a0 k, LeO (stoaref01_Width.f k a0) (stoaref01_Width.f (k + 1) a0) := by
  intro a0 k
  obtain ⟨ih0, ih1⟩ := stoaref01_Width.mono_l k
  unfold stoaref01_Width.f
  repeat' first
      | (with_reducible exact ih0 _ _ _)
      | (with_reducible exact ih1 _ _ _ _ _)
      | (with_reducible exact LeO.refl _)
      | (with_reducible exact LeO.none _)
      | (with_reducible refine LeO.ite ?_ ?_)
      | (with_reducible refine LeO.bind ?_ (fun _ => ?_))
      | exact ih0 _ _ _
      | exact ih1 _ _ _ _ _
      | exact LeO.none _
      | refine LeO.ite ?_ ?_
      | refine LeO.bind ?_ (fun _ => ?_)
set_option maxHeartbeats 8000000 in
set_option maxRecDepth 100000 in
theorem stoaref01_Width.calls (k : Nat) (A0 : Option Addr) (c0 : Nat) (l0 : List Int) (r : Int) (w : World) (hr0 : Kd.C (Kd.int .u64) w A0 l0.length l0) (hc0 : l0.length ≤ c0) (h : stoaref01_Width.f k l0 = some r) :
    Calls Try.prog 14 #[.slice A0 l0.length c0] w fun e w' => e = .returned (.int .i64 r) ∧ Drawn0 w w' := by
  have HR0 := Aside0.mk hr0
  have HC0 := Aside0.mk hc0
  clear hr0 hc0
  have H : (stoaref01_Width.l0 k l0 0 0) = some r := h
  clear h
  have H' := Aside0.mk H
  clear H
  go_enter Try.func14, Try.ntmps14
  go_wp2
  go_loopg [3, 4] k (fun kq v3 v4 w' => ∃ (x3_1 : Int) (x4_1 : Int), v3 = .int .i64 x3_1 ∧ v4 = .int .i64 x4_1 ∧ Aside0 (stoaref01_Width.l0 kq l0 x3_1 x4_1 = some r) ∧ Aside0 (kq ≤ k) ∧ Drawn0 w w')
  case atStart => exact ⟨(0), (0), (by first | rfl | (simp; done) | (simp [*]; done)), (by first | rfl | (simp; done) | (simp [*]; done)), H', ⟨Nat.le_refl _⟩, by repeat (first | exact Drawn0.refl _ | apply Drawn0.step)⟩
  case round =>
    clear H'
    try clear c1
    obtain ⟨x3_1, x4_1, rfl, rfl, HA, HK1, ⟨m1, rfl⟩⟩ := hrel
    cases gk with
    | zero => exact absurd HA.out (by simp [stoaref01_Width.l0])
    | succ k1 =>
      have H := HA.out
      clear HA
      simp only [stoaref01_Width.l0] at H
      by_cases c2 : x4_1 < (l0.length : Int)
      · rw [if_pos c2] at H
        have c2b0 : decide (x4_1 < (l0.length : Int)) = true := decide_eq_true c2
        clear c2
        by_cases c3 : 0 ≤ x4_1
        · rw [if_pos c3] at H
          have c3b0 : decide (0 ≤ x4_1) = true := decide_eq_true c3
          clear c3
          have H' := Aside0.mk H
          clear H
          have p168 : 0 ≤ (x4_1 : Int) := of_decide_eq_true (by first | (with_reducible assumption) | assumption)
          have q168 : x4_1 < (l0.length : Int) := of_decide_eq_true (by first | (with_reducible assumption) | assumption)
          obtain ⟨ad168, e168, hx168_0⟩ := Kd.at_int HR0.out x4_1 p168 q168
          cases e168
          replace p168 := eq_true p168
          replace q168 := eq_true q168
          go_wp2
          go_loopg [5, 6] k1 (fun kq v5 v6 w' => ∃ (x5_2 : Int) (x6_2 : Int), v5 = .int .i64 x5_2 ∧ v6 = .int .u64 x6_2 ∧ Aside0 (stoaref01_Width.l1 kq l0 x3_1 x4_1 x5_2 x6_2 = some r) ∧ Aside0 (kq ≤ k1) ∧ Drawn0 w w')
          case atStart => exact ⟨(0), (rd l0 x4_1), (by first | rfl | (simp; done) | (simp [*]; done)), (by first | rfl | (simp; done) | (simp [*]; done)), H', ⟨Nat.le_refl _⟩, by repeat (first | exact Drawn0.refl _ | apply Drawn0.step)⟩
          case round =>
            clear H'
            try clear c1
            try clear p1
            try clear q1
            try clear hx1
            try clear c2
            try clear c2b0
            try clear p2
            try clear c3
            try clear c3b0
            try clear hx168_0
            try clear p168
            try clear q168
            obtain ⟨x5_2, x6_2, rfl, rfl, HA, HK2, ⟨m2, rfl⟩⟩ := hrel
            cases gk with
            | zero => exact absurd HA.out (by simp [stoaref01_Width.l1])
            | succ k2 =>
              have H := HA.out
              clear HA
              simp only [stoaref01_Width.l1] at H
              by_cases c4 : x6_2 > 0
              · rw [if_pos c4] at H
                have c4b0 : decide (0 < x6_2) = true := decide_eq_true c4
                clear c4
                have H' := Aside0.mk H
                clear H
                go_wp2
                go_roundg k2
                case measure => have := HK1.out; have := HK2.out; omega
                case rel => exact ⟨(wrap64 (x5_2 + 1)), (IntKind.u64.wrap (Int.tdiv x6_2 2)), (by first | rfl | (simp; done) | (simp [*]; done)), (by first | rfl | (simp; done) | (simp [*]; done)), H', ⟨by have := HK1.out; have := HK2.out; omega⟩, by repeat (first | exact Drawn0.refl _ | apply Drawn0.step)⟩
              · rw [if_neg c4] at H
                have c4b0 : decide (0 < x6_2) = false := decide_eq_false c4
                clear c4
                by_cases c5 : x5_2 > x3_1
                · rw [if_pos c5] at H
                  have c5b0 : decide (x3_1 < x5_2) = true := decide_eq_true c5
                  clear c5
                  have H' := Aside0.mk H
                  clear H
                  go_wp2
                  go_roundg k2
                  case measure => have := HK1.out; have := HK2.out; omega
                  case rel => exact ⟨(x5_2), (wrap64 (x4_1 + 1)), (by first | rfl | (simp; done) | (simp [*]; done)), (by first | rfl | (simp; done) | (simp [*]; done)), H', ⟨by have := HK1.out; have := HK2.out; omega⟩, by repeat (first | exact Drawn0.refl _ | apply Drawn0.step)⟩
                · rw [if_neg c5] at H
                  have c5b0 : decide (x3_1 < x5_2) = false := decide_eq_false c5
                  clear c5
                  have H' := Aside0.mk H
                  clear H
                  go_wp2
                  go_roundg k2
                  case measure => have := HK1.out; have := HK2.out; omega
                  case rel => exact ⟨(x3_1), (wrap64 (x4_1 + 1)), (by first | rfl | (simp; done) | (simp [*]; done)), (by first | rfl | (simp; done) | (simp [*]; done)), H', ⟨by have := HK1.out; have := HK2.out; omega⟩, by repeat (first | exact Drawn0.refl _ | apply Drawn0.step)⟩
        · rw [if_neg c3] at H
          exact absurd H (by simp)
      · rw [if_neg c2] at H
        have c2b0 : decide (x4_1 < (l0.length : Int)) = false := decide_eq_false c2
        clear c2
        obtain rfl := Option.some.inj H
        go_wp2
        go_ret
        exact ⟨by first | rfl | (simp; done) | (simp [*]; done), by repeat (first | exact Drawn0.refl _ | apply Drawn0.step)⟩

/-! ### stoaref01_power: function 32 -/
def stoaref01_power.l0 : Nat → Int → Int → Int → Option (Int)
  | 0, _, _, _ => none
  | k + 1, x0, x3, x4 => if x4 < x0 then (stoaref01_power.l0 k x0 (IntKind.u64.wrap (x3 * 2)) (wrap64 (x4 + 1))) else (some x3)
def stoaref01_power.f (k : Nat) (a0 : Int) : Option (Int) := stoaref01_power.l0 k a0 1 0
theorem stoaref01_power.mono_l : ∀ k, (∀ y0 y1 y2, LeO (stoaref01_power.l0 k y0 y1 y2) (stoaref01_power.l0 (k + 1) y0 y1 y2))
  | 0 => fun _ _ _ r h => by simp [stoaref01_power.l0] at h
  | k + 1 => by
    have ih0 := stoaref01_power.mono_l k
    · intro y0 y1 y2
      unfold stoaref01_power.l0
      repeat' first
      | (with_reducible exact ih0 _ _ _)
      | (with_reducible exact LeO.refl _)
      | (with_reducible exact LeO.none _)
      | (with_reducible refine LeO.ite ?_ ?_)
      | (with_reducible refine LeO.bind ?_ (fun _ => ?_))
      | exact ih0 _ _ _
      | exact LeO.none _
      | refine LeO.ite ?_ ?_
      | refine LeO.bind ?_ (fun _ => ?_)
theorem stoaref01_power.mono : ∀ a0 k, LeO (stoaref01_power.f k a0) (stoaref01_power.f (k + 1) a0) := by
  intro a0 k
  have ih0 := stoaref01_power.mono_l k
  unfold stoaref01_power.f
  repeat' first
      | (with_reducible exact ih0 _ _ _)
      | (with_reducible exact LeO.refl _)
      | (with_reducible exact LeO.none _)
      | (with_reducible refine LeO.ite ?_ ?_)
      | (with_reducible refine LeO.bind ?_ (fun _ => ?_))
      | exact ih0 _ _ _
      | exact LeO.none _
      | refine LeO.ite ?_ ?_
      | refine LeO.bind ?_ (fun _ => ?_)
set_option maxHeartbeats 8000000 in
set_option maxRecDepth 100000 in
theorem stoaref01_power.calls (k : Nat) (a0 : Int) (r : Int) (w : World) (h : stoaref01_power.f k a0 = some r) :
    Calls Try.prog 32 #[.int .i64 a0] w fun e w' => e = .returned (.int .u64 r) ∧ Drawn0 w w' := by
  have H : (stoaref01_power.l0 k a0 1 0) = some r := h
  clear h
  have H' := Aside0.mk H
  clear H
  go_enter Try.func32, Try.ntmps32
  go_wp2
  go_loopg [3, 4] k (fun kq v3 v4 w' => ∃ (x3_1 : Int) (x4_1 : Int), v3 = .int .u64 x3_1 ∧ v4 = .int .i64 x4_1 ∧ Aside0 (stoaref01_power.l0 kq a0 x3_1 x4_1 = some r) ∧ Aside0 (kq ≤ k) ∧ Drawn0 w w')
  case atStart => exact ⟨(1), (0), (by first | rfl | (simp; done) | (simp [*]; done)), (by first | rfl | (simp; done) | (simp [*]; done)), H', ⟨Nat.le_refl _⟩, by repeat (first | exact Drawn0.refl _ | apply Drawn0.step)⟩
  case round =>
    clear H'
    obtain ⟨x3_1, x4_1, rfl, rfl, HA, HK1, ⟨m1, rfl⟩⟩ := hrel
    cases gk with
    | zero => exact absurd HA.out (by simp [stoaref01_power.l0])
    | succ k1 =>
      have H := HA.out
      clear HA
      simp only [stoaref01_power.l0] at H
      by_cases c2 : x4_1 < a0
      · rw [if_pos c2] at H
        have c2b0 : decide (x4_1 < a0) = true := decide_eq_true c2
        clear c2
        have H' := Aside0.mk H
        clear H
        go_wp2
        go_roundg k1
        case measure => have := HK1.out; omega
        case rel => exact ⟨(IntKind.u64.wrap (x3_1 * 2)), (wrap64 (x4_1 + 1)), (by first | rfl | (simp; done) | (simp [*]; done)), (by first | rfl | (simp; done) | (simp [*]; done)), H', ⟨by have := HK1.out; omega⟩, by repeat (first | exact Drawn0.refl _ | apply Drawn0.step)⟩
      · rw [if_neg c2] at H
        have c2b0 : decide (x4_1 < a0) = false := decide_eq_false c2
        clear c2
        obtain rfl := Option.some.inj H
        go_wp2
        go_ret
        exact ⟨by first | rfl | (simp; done) | (simp [*]; done), by repeat (first | exact Drawn0.refl _ | apply Drawn0.step)⟩

end Go.Proofs.Ytickchfdikgniaa.PBitsPacks

-- written by this session's own printing program (myprint.sh)
import Derived.Test.YtickchfdikgniaaPBitsUnpacksx0
import Derived.Test.YtickchfdikgniaaPBitsUnpacksx2
import Derived.Test.YtickchfdikgniaaPBitsUnpacksx3
import Derived.Test.YtickchfdikgniaaPBitsUnpacksx4
namespace Go.Proofs.Ytickchfdikgniaa.PBitsUnpacks
open Go.RowKit Go.Proofs.YtickchfdikgniaaW.PrintWords Go.Proofs.YtickchfdikgniaaW.PrintLast Go.Proofs.YtickchfdikgniaaW.PrintMore
attribute [local go_sem] max2_int min2_int max_two min_two max_three min_three max_four min_four   -- for this text's walks alone
set_option linter.unusedVariables false
set_option linter.unusedSimpArgs false

/-! ### stoalaw01_BitsUnpacks: function 4 -/
mutual
def stoalaw01_BitsUnpacks.j0 : Nat → List Int → List Int → List Int → List Int → List Int → Bool → Option (Bool)
  | 0, _, _, _, _, _, _ => none
  | k + 1, x0, x7, x8, x10, x12, x65 => if x65 = true then (some false) else (stoalaw01_BitsUnpacks.l0 k x0 x7 x8 x10 x12 (x10.length : Int) 0)
def stoalaw01_BitsUnpacks.l0 : Nat → List Int → List Int → List Int → List Int → List Int → Int → Int → Option (Bool)
  | 0, _, _, _, _, _, _, _ => none
  | k + 1, x0, x7, x8, x10, x12, x67, x68 => if x68 < x67 then (if 0 ≤ x68 then (if x68 < (x10.length : Int) then (stoalaw01_BitsUnpacks.l0 k x0 x7 x8 (x10.set (x68 : Int).toNat (IntKind.u64.wrap ((rd x10 x68) + 1))) x12 x67 (wrap64 (x68 + 1))) else (none)) else (none)) else ((stoaref01_SameNumbers.f k x12 x8).bind fun t218 => (if t218 = true then ((stoaref01_Intact.f k x7 x0).bind fun t219 => (some t219)) else (some false)))
end
def stoalaw01_BitsUnpacks.f (k : Nat) (l0 : List Int) (a1 : Int) (a2 : Int) : Option (Bool) := (stoalaw01_alive.f k).bind fun t190 => (if t190 = true then ((stoaref01_Wide.f k l0).bind fun t191 => ((stoaref01_Unpack.f k l0 a1 a2).bind fun bt194 => (if 0 ≤ (l0.length : Int) then (if (l0.length : Int) ≤ (t191.length : Int) then ((bits_Unpack.f k (t191.take ((l0.length : Int) : Int).toNat) a1 a2).bind fun bt202 => ((bits_Unpack.f k (t191.take ((l0.length : Int) : Int).toNat) a1 a2).bind fun bt210 => (if bt202.2 = bt194.2 then (if bt210.2 = bt202.2 then ((stoaref01_SameNumbers.f k bt202.1 bt194.1).bind fun t214 => (if t214 = true then ((stoaref01_SameNumbers.f k bt210.1 bt194.1).bind fun t215 => (stoalaw01_BitsUnpacks.j0 k l0 t191 bt194.1 bt202.1 bt210.1 (!t215))) else (stoalaw01_BitsUnpacks.j0 k l0 t191 bt194.1 bt202.1 bt210.1 true))) else (stoalaw01_BitsUnpacks.j0 k l0 t191 bt194.1 bt202.1 bt210.1 true)) else (stoalaw01_BitsUnpacks.j0 k l0 t191 bt194.1 bt202.1 bt210.1 true)))) else (none)) else (none)))) else (some false))
theorem stoalaw01_BitsUnpacks.mono_l : ∀ k, (∀ y0 y1 y2 y3 y4 y5, LeO (stoalaw01_BitsUnpacks.j0 k y0 y1 y2 y3 y4 y5) (stoalaw01_BitsUnpacks.j0 (k + 1) y0 y1 y2 y3 y4 y5)) ∧ (∀ y0 y1 y2 y3 y4 y5 y6, LeO (stoalaw01_BitsUnpacks.l0 k y0 y1 y2 y3 y4 y5 y6) (stoalaw01_BitsUnpacks.l0 (k + 1) y0 y1 y2 y3 y4 y5 y6))
  | 0 => ⟨fun _ _ _ _ _ _ r h => by simp [stoalaw01_BitsUnpacks.j0] at h, fun _ _ _ _ _ _ _ r h => by simp [stoalaw01_BitsUnpacks.l0] at h⟩
  | k + 1 => by
    obtain ⟨ih0, ih1⟩ := stoalaw01_BitsUnpacks.mono_l k
    refine ⟨?_, ?_⟩
    · intro y0 y1 y2 y3 y4 y5
      unfold stoalaw01_BitsUnpacks.j0
      repeat' first
      | (with_reducible exact ih0 _ _ _ _ _ _)
      | (with_reducible exact ih1 _ _ _ _ _ _ _)
      | (with_reducible exact bits_Unpack.mono _ _ _ _)
      | (with_reducible exact stoalaw01_alive.mono _)
      | (with_reducible exact stoaref01_Intact.mono _ _ _)
      | (with_reducible exact stoaref01_SameNumbers.mono _ _ _)
      | (with_reducible exact stoaref01_Unpack.mono _ _ _ _)
      | (with_reducible exact stoaref01_Wide.mono _ _)
      | (with_reducible exact LeO.refl _)
      | (with_reducible exact LeO.none _)
      | (with_reducible refine LeO.ite ?_ ?_)
      | (with_reducible refine LeO.bind ?_ (fun _ => ?_))
      | exact ih0 _ _ _ _ _ _
      | exact ih1 _ _ _ _ _ _ _
      | exact bits_Unpack.mono _ _ _ _
      | exact stoalaw01_alive.mono _
      | exact stoaref01_Intact.mono _ _ _
      | exact stoaref01_SameNumbers.mono _ _ _
      | exact stoaref01_Unpack.mono _ _ _ _
      | exact stoaref01_Wide.mono _ _
      | exact LeO.none _
      | refine LeO.ite ?_ ?_
      | refine LeO.bind ?_ (fun _ => ?_)
    · intro y0 y1 y2 y3 y4 y5 y6
      unfold stoalaw01_BitsUnpacks.l0
      repeat' first
      | (with_reducible exact ih0 _ _ _ _ _ _)
      | (with_reducible exact ih1 _ _ _ _ _ _ _)
      | (with_reducible exact bits_Unpack.mono _ _ _ _)
      | (with_reducible exact stoalaw01_alive.mono _)
      | (with_reducible exact stoaref01_Intact.mono _ _ _)
      | (with_reducible exact stoaref01_SameNumbers.mono _ _ _)
      | (with_reducible exact stoaref01_Unpack.mono _ _ _ _)
      | (with_reducible exact stoaref01_Wide.mono _ _)
      | (with_reducible exact LeO.refl _)
      | (with_reducible exact LeO.none _)
      | (with_reducible refine LeO.ite ?_ ?_)
      | (with_reducible refine LeO.bind ?_ (fun _ => ?_))
      | exact ih0 _ _ _ _ _ _
      | exact ih1 _ _ _ _ _ _ _
      | exact bits_Unpack.mono _ _ _ _
      | exact stoalaw01_alive.mono _
      | exact stoaref01_Intact.mono _ _ _
      | exact stoaref01_SameNumbers.mono _ _ _
      | exact stoaref01_Unpack.mono _ _ _ _
      | exact stoaref01_Wide.mono _ _
      | exact LeO.none _
      | refine LeO.ite ?_ ?_
      | refine LeO.bind ?_ (fun _ => ?_)
theorem stoalaw01_BitsUnpacks.mono : ∀ a0 a1 a2 k, LeO (stoalaw01_BitsUnpacks.f k a0 a1 a2) (stoalaw01_BitsUnpacks.f (k + 1) a0 a1 a2) := by
  intro a0 a1 a2 k
  obtain ⟨ih0, ih1⟩ := stoalaw01_BitsUnpacks.mono_l k
  unfold stoalaw01_BitsUnpacks.f
  repeat' first
      | (with_reducible exact ih0 _ _ _ _ _ _)
      | (with_reducible exact ih1 _ _ _ _ _ _ _)
      | (with_reducible exact bits_Unpack.mono _ _ _ _)
      | (with_reducible exact stoalaw01_alive.mono _)
      | (with_reducible exact stoaref01_Intact.mono _ _ _)
      | (with_reducible exact stoaref01_SameNumbers.mono _ _ _)
      | (with_reducible exact stoaref01_Unpack.mono _ _ _ _)
      | (with_reducible exact stoaref01_Wide.mono _ _)
      | (with_reducible exact LeO.refl _)
      | (with_reducible exact LeO.none _)
      | (with_reducible refine LeO.ite ?_ ?_)
      | (with_reducible refine LeO.bind ?_ (fun _ => ?_))
      | exact ih0 _ _ _ _ _ _
      | exact ih1 _ _ _ _ _ _ _
      | exact bits_Unpack.mono _ _ _ _
      | exact stoalaw01_alive.mono _
      | exact stoaref01_Intact.mono _ _ _
      | exact stoaref01_SameNumbers.mono _ _ _
      | exact stoaref01_Unpack.mono _ _ _ _
      | exact stoaref01_Wide.mono _ _
      | exact LeO.none _
      | refine LeO.ite ?_ ?_
      | refine LeO.bind ?_ (fun _ => ?_)
set_option maxHeartbeats 8000000 in
set_option maxRecDepth 100000 in
theorem stoalaw01_BitsUnpacks.calls (k : Nat) (A0 : Option Addr) (c0 : Nat) (l0 : List Int) (a1 : Int) (a2 : Int) (r : Bool) (w : World) (hr0 : Kd.C (Kd.int .u8) w A0 l0.length l0) (hc0 : l0.length ≤ c0) (h : stoalaw01_BitsUnpacks.f k l0 a1 a2 = some r) :
    Calls Try.prog 4 #[.slice A0 l0.length c0, .int .i64 a1, .int .i64 a2] w fun e w' => e = .returned (.bool r) ∧ Below w.heap.size w w' := by
  have HR0 := Aside0.mk hr0
  have HC0 := Aside0.mk hc0
  clear hr0 hc0
  have HB := Aside0.mk (Below.refl w.heap.size w)
  have H : ((stoalaw01_alive.f k).bind fun t190 => (if t190 = true then ((stoaref01_Wide.f k l0).bind fun t191 => ((stoaref01_Unpack.f k l0 a1 a2).bind fun bt194 => (if 0 ≤ (l0.length : Int) then (if (l0.length : Int) ≤ (t191.length : Int) then ((bits_Unpack.f k (t191.take ((l0.length : Int) : Int).toNat) a1 a2).bind fun bt202 => ((bits_Unpack.f k (t191.take ((l0.length : Int) : Int).toNat) a1 a2).bind fun bt210 => (if bt202.2 = bt194.2 then (if bt210.2 = bt202.2 then ((stoaref01_SameNumbers.f k bt202.1 bt194.1).bind fun t214 => (if t214 = true then ((stoaref01_SameNumbers.f k bt210.1 bt194.1).bind fun t215 => (stoalaw01_BitsUnpacks.j0 k l0 t191 bt194.1 bt202.1 bt210.1 (!t215))) else (stoalaw01_BitsUnpacks.j0 k l0 t191 bt194.1 bt202.1 bt210.1 true))) else (stoalaw01_BitsUnpacks.j0 k l0 t191 bt194.1 bt202.1 bt210.1 true)) else (stoalaw01_BitsUnpacks.j0 k l0 t191 bt194.1 bt202.1 bt210.1 true)))) else (none)) else (none)))) else (some false))) = some r := h
  clear h
  replace H := Option.bind_eq_some_iff.mp H
  obtain ⟨t190, A40, H⟩ := H
  replace H : (if t190 = true then ((stoaref01_Wide.f k l0).bind fun t191 => ((stoaref01_Unpack.f k l0 a1 a2).bind fun bt194 => (if 0 ≤ (l0.length : Int) then (if (l0.length : Int) ≤ (t191.length : Int) then ((bits_Unpack.f k (t191.take ((l0.length : Int) : Int).toNat) a1 a2).bind fun bt202 => ((bits_Unpack.f k (t191.take ((l0.length : Int) : Int).toNat) a1 a2).bind fun bt210 => (if bt202.2 = bt194.2 then (if bt210.2 = bt202.2 then ((stoaref01_SameNumbers.f k bt202.1 bt194.1).bind fun t214 => (if t214 = true then ((stoaref01_SameNumbers.f k bt210.1 bt194.1).bind fun t215 => (stoalaw01_BitsUnpacks.j0 k l0 t191 bt194.1 bt202.1 bt210.1 (!t215))) else (stoalaw01_BitsUnpacks.j0 k l0 t191 bt194.1 bt202.1 bt210.1 true))) else (stoalaw01_BitsUnpacks.j0 k l0 t191 bt194.1 bt202.1 bt210.1 true)) else (stoalaw01_BitsUnpacks.j0 k l0 t191 bt194.1 bt202.1 bt210.1 true)))) else (none)) else (none)))) else (some false)) = some r := H
  have A4 := Aside0.mk A40
  clear A40
  by_cases c5 : t190 = true
  · subst c5
    have H1 : ((stoaref01_Wide.f k l0).bind fun t191 => ((stoaref01_Unpack.f k l0 a1 a2).bind fun bt194 => (if 0 ≤ (l0.length : Int) then (if (l0.length : Int) ≤ (t191.length : Int) then ((bits_Unpack.f k (t191.take ((l0.length : Int) : Int).toNat) a1 a2).bind fun bt202 => ((bits_Unpack.f k (t191.take ((l0.length : Int) : Int).toNat) a1 a2).bind fun bt210 => (if bt202.2 = bt194.2 then (if bt210.2 = bt202.2 then ((stoaref01_SameNumbers.f k bt202.1 bt194.1).bind fun t214 => (if t214 = true then ((stoaref01_SameNumbers.f k bt210.1 bt194.1).bind fun t215 => (stoalaw01_BitsUnpacks.j0 k l0 t191 bt194.1 bt202.1 bt210.1 (!t215))) else (stoalaw01_BitsUnpacks.j0 k l0 t191 bt194.1 bt202.1 bt210.1 true))) else (stoalaw01_BitsUnpacks.j0 k l0 t191 bt194.1 bt202.1 bt210.1 true)) else (stoalaw01_BitsUnpacks.j0 k l0 t191 bt194.1 bt202.1 bt210.1 true)))) else (none)) else (none)))) = some r := by rw [if_pos rfl] at H; exact H
    clear H
    have H := H1
    clear H1
    replace H := Option.bind_eq_some_iff.mp H
    obtain ⟨t191, A60, H⟩ := H
    replace H : ((stoaref01_Unpack.f k l0 a1 a2).bind fun bt194 => (if 0 ≤ (l0.length : Int) then (if (l0.length : Int) ≤ (t191.length : Int) then ((bits_Unpack.f k (t191.take ((l0.length : Int) : Int).toNat) a1 a2).bind fun bt202 => ((bits_Unpack.f k (t191.take ((l0.length : Int) : Int).toNat) a1 a2).bind fun bt210 => (if bt202.2 = bt194.2 then (if bt210.2 = bt202.2 then ((stoaref01_SameNumbers.f k bt202.1 bt194.1).bind fun t214 => (if t214 = true then ((stoaref01_SameNumbers.f k bt210.1 bt194.1).bind fun t215 => (stoalaw01_BitsUnpacks.j0 k l0 t191 bt194.1 bt202.1 bt210.1 (!t215))) else (stoalaw01_BitsUnpacks.j0 k l0 t191 bt194.1 bt202.1 bt210.1 true))) else (stoalaw01_BitsUnpacks.j0 k l0 t191 bt194.1 bt202.1 bt210.1 true)) else (stoalaw01_BitsUnpacks.j0 k l0 t191 bt194.1 bt202.1 bt210.1 true)))) else (none)) else (none))) = some r := H
    have A6 := Aside0.mk A60
    clear A60
    replace H := Option.bind_eq_some_iff.mp H
    obtain ⟨⟨t194, t195⟩, A70, H⟩ := H
    replace H : (if 0 ≤ (l0.length : Int) then (if (l0.length : Int) ≤ (t191.length : Int) then ((bits_Unpack.f k (t191.take ((l0.length : Int) : Int).toNat) a1 a2).bind fun bt202 => ((bits_Unpack.f k (t191.take ((l0.length : Int) : Int).toNat) a1 a2).bind fun bt210 => (if bt202.2 = t195 then (if bt210.2 = bt202.2 then ((stoaref01_SameNumbers.f k bt202.1 t194).bind fun t214 => (if t214 = true then ((stoaref01_SameNumbers.f k bt210.1 t194).bind fun t215 => (stoalaw01_BitsUnpacks.j0 k l0 t191 t194 bt202.1 bt210.1 (!t215))) else (stoalaw01_BitsUnpacks.j0 k l0 t191 t194 bt202.1 bt210.1 true))) else (stoalaw01_BitsUnpacks.j0 k l0 t191 t194 bt202.1 bt210.1 true)) else (stoalaw01_BitsUnpacks.j0 k l0 t191 t194 bt202.1 bt210.1 true)))) else (none)) else (none)) = some r := H
    have A7 := Aside0.mk A70
    clear A70
    by_cases c8 : 0 ≤ (l0.length : Int)
    · rw [if_pos c8] at H
      have c8b0 := eq_true c8
      have c8b1 : decide (0 ≤ (l0.length : Int)) = true := decide_eq_true c8
      clear c8
      by_cases c9 : (l0.length : Int) ≤ (t191.length : Int)
      · rw [if_pos c9] at H
        have c9b0 := eq_true c9
        have c9b1 : decide ((l0.length : Int) ≤ (t191.length : Int)) = true := decide_eq_true c9
        clear c9
        obtain ⟨y198, hy198⟩ : ∃ y_ : List Int, y_ = (t191.take ((l0.length : Int) : Int).toNat) := ⟨_, rfl⟩
        replace H : ((bits_Unpack.f k y198 a1 a2).bind fun bt202 => ((bits_Unpack.f k (t191.take ((l0.length : Int) : Int).toNat) a1 a2).bind fun bt210 => (if bt202.2 = t195 then (if bt210.2 = bt202.2 then ((stoaref01_SameNumbers.f k bt202.1 t194).bind fun t214 => (if t214 = true then ((stoaref01_SameNumbers.f k bt210.1 t194).bind fun t215 => (stoalaw01_BitsUnpacks.j0 k l0 t191 t194 bt202.1 bt210.1 (!t215))) else (stoalaw01_BitsUnpacks.j0 k l0 t191 t194 bt202.1 bt210.1 true))) else (stoalaw01_BitsUnpacks.j0 k l0 t191 t194 bt202.1 bt210.1 true)) else (stoalaw01_BitsUnpacks.j0 k l0 t191 t194 bt202.1 bt210.1 true)))) = some r := by first | (rw [hy198]; with_reducible exact H) | (have H2_ := (Option.bind_some _ _).symm.trans H; rw [hy198]; with_reducible exact H2_) | (have H2_ := (Option.bind_some _ _).symm.trans H; with_reducible exact H2_) | with_reducible exact H | (rw [hy198]; exact H) | exact H
        have Ny198 := Aside0.mk hy198
        clear hy198
        replace H := Option.bind_eq_some_iff.mp H
        obtain ⟨⟨t202, t203⟩, A100, H⟩ := H
        replace H : ((bits_Unpack.f k (t191.take ((l0.length : Int) : Int).toNat) a1 a2).bind fun bt210 => (if t203 = t195 then (if bt210.2 = t203 then ((stoaref01_SameNumbers.f k t202 t194).bind fun t214 => (if t214 = true then ((stoaref01_SameNumbers.f k bt210.1 t194).bind fun t215 => (stoalaw01_BitsUnpacks.j0 k l0 t191 t194 t202 bt210.1 (!t215))) else (stoalaw01_BitsUnpacks.j0 k l0 t191 t194 t202 bt210.1 true))) else (stoalaw01_BitsUnpacks.j0 k l0 t191 t194 t202 bt210.1 true)) else (stoalaw01_BitsUnpacks.j0 k l0 t191 t194 t202 bt210.1 true))) = some r := H
        have A10 := Aside0.mk A100
        clear A100
        have c11b0 := eq_true (of_decide_eq_true (by first | (with_reducible assumption) | assumption) : 0 ≤ (l0.length : Int))
        have c12b0 := eq_true (of_decide_eq_true (by first | (with_reducible assumption) | assumption) : (l0.length : Int) ≤ (t191.length : Int))
        replace H : ((bits_Unpack.f k y198 a1 a2).bind fun bt210 => (if t203 = t195 then (if bt210.2 = t203 then ((stoaref01_SameNumbers.f k t202 t194).bind fun t214 => (if t214 = true then ((stoaref01_SameNumbers.f k bt210.1 t194).bind fun t215 => (stoalaw01_BitsUnpacks.j0 k l0 t191 t194 t202 bt210.1 (!t215))) else (stoalaw01_BitsUnpacks.j0 k l0 t191 t194 t202 bt210.1 true))) else (stoalaw01_BitsUnpacks.j0 k l0 t191 t194 t202 bt210.1 true)) else (stoalaw01_BitsUnpacks.j0 k l0 t191 t194 t202 bt210.1 true))) = some r := by first | (rw [Ny198.out]; with_reducible exact H) | (have H2_ := (Option.bind_some _ _).symm.trans H; rw [Ny198.out]; with_reducible exact H2_) | (have H2_ := (Option.bind_some _ _).symm.trans H; with_reducible exact H2_) | with_reducible exact H | (rw [Ny198.out]; exact H) | exact H
        replace H := Option.bind_eq_some_iff.mp H
        obtain ⟨⟨t210, t211⟩, A130, H⟩ := H
        replace H : (if t203 = t195 then (if t211 = t203 then ((stoaref01_SameNumbers.f k t202 t194).bind fun t214 => (if t214 = true then ((stoaref01_SameNumbers.f k t210 t194).bind fun t215 => (stoalaw01_BitsUnpacks.j0 k l0 t191 t194 t202 t210 (!t215))) else (stoalaw01_BitsUnpacks.j0 k l0 t191 t194 t202 t210 true))) else (stoalaw01_BitsUnpacks.j0 k l0 t191 t194 t202 t210 true)) else (stoalaw01_BitsUnpacks.j0 k l0 t191 t194 t202 t210 true)) = some r := H
        have A13 := Aside0.mk A130
        clear A130
        have HC14 := Aside0.mk H
        clear H
        go_enter Try.func4, Try.ntmps4
        go_upto_region 7 with (first | ((with_reducible refine gate_callee (f := 9) rfl ?_); refine goesL_ (some 15) rfl rfl Try.func9 (by kernel_rfl) rfl #[] rfl (by (try simp only [List.map_toArray, List.map_cons, List.map_nil]); first | done | rfl | (simp only [List.length_drop, List.length_take]; rfl)) ?_; (with_reducible refine (stoalaw01_alive.calls k  true _ A4.out).mono ?_); rintro e w15 ⟨rfl, hb⟩; refine ⟨_, rfl, ?_⟩; have n0_ := Aside0.mk (below_step (by repeat (first | (with_reducible first | exact HB.out | apply below_alloc | apply pw_below_drewN | apply below_drew1) | exact HB.out)) hb); clear HB; have HB := n0_; clear n0_; (try clear hb); (try clear hb2); (try clear hk); (try clear hi)) | ((with_reducible refine gate_callee (f := 17) rfl ?_); refine goesL_ (some 18) rfl rfl Try.func17 (by kernel_rfl) rfl #[.slice A0 l0.length c0] rfl (by (try simp only [List.map_toArray, List.map_cons, List.map_nil]); first | done | rfl | (simp only [List.length_drop, List.length_take]; rfl)) ?_; (with_reducible refine (stoaref01_Wide.calls k _ _ l0 t191 _ ?side1 ?side2 A6.out).mono ?_); (case side1 => repeat (first | exact (Kd.C_below HR0.out HB.out) | (with_reducible refine Kd.C_alloc ?_ _) | (with_reducible refine Kd.C_drewN ?_ _) | (with_reducible refine Kd.C_drew ?_))); (case side2 => exact HC0.out); rintro e w16 ⟨v192, rfl, ho0, hb⟩; refine ⟨_, rfl, ?_⟩; have n0_ := Aside0.mk (Kd.R_lower ho0 (below_size (by repeat (first | (with_reducible first | exact HB.out | apply below_alloc | apply pw_below_drewN | apply below_drew1) | exact HB.out)))); have n1_ := Aside0.mk (below_step (by repeat (first | (with_reducible first | exact HB.out | apply below_alloc | apply pw_below_drewN | apply below_drew1) | exact HB.out)) hb); clear HB; have HO193 := n0_; have HB := n1_; clear n0_ n1_; (try clear hb); (try clear hb2); (try clear hk); (try clear hi); (try clear ho0)) | ((with_reducible refine gate_callee (f := 18) rfl ?_); refine goesL_ (some 23) rfl rfl Try.func18 (by kernel_rfl) rfl #[.slice A0 l0.length c0, .int .i64 a1, .int .i64 a2] rfl (by (try simp only [List.map_toArray, List.map_cons, List.map_nil]); first | done | rfl | (simp only [List.length_drop, List.length_take]; rfl)) ?_; (with_reducible refine (stoaref01_Unpack.calls k _ _ l0 a1 a2 t194 t195 _ ?side1 ?side2 A7.out).mono ?_); (case side1 => repeat (first | exact (Kd.C_below HR0.out HB.out) | (with_reducible refine Kd.C_alloc ?_ _) | (with_reducible refine Kd.C_drewN ?_ _) | (with_reducible refine Kd.C_drew ?_))); (case side2 => exact HC0.out); rintro e w17 ⟨v196, rfl, ho0, hb⟩; refine ⟨_, rfl, ?_⟩; have n0_ := Aside0.mk (Kd.R_below (by (with_reducible repeat (first | apply Kd.R_alloc | apply Kd.R_drewN | apply Kd.R_drew)); exact HO193.out) hb); have n1_ := Aside0.mk (Kd.R_lower ho0 (below_size (by repeat (first | (with_reducible first | exact HB.out | apply below_alloc | apply pw_below_drewN | apply below_drew1) | exact HB.out)))); have n2_ := Aside0.mk (below_step (by repeat (first | (with_reducible first | exact HB.out | apply below_alloc | apply pw_below_drewN | apply below_drew1) | exact HB.out)) hb); clear HO193; clear HB; have HO193 := n0_; have HO197 := n1_; have HB := n2_; clear n0_ n1_ n2_; (try clear hb); (try clear hb2); (try clear hk); (try clear hi); (try clear ho0); obtain ⟨Ao19, co19, eo19⟩ := Kd.R_slice HO193.out; subst eo19; have q18 : ((l0.length : Int) : Int) ≤ ((t191.length : Int) : Int) := of_decide_eq_true (by first | (with_reducible assumption) | assumption); obtain ⟨i018, hi018, _, hsz18, _⟩ := info_parts info5; have hroom18 : t191.length ≤ co19 := (Kd.R_reads' HO193.out).2.1; have hC18 : Kd.C (Kd.int .u8) _ Ao19 t191.length t191 := (Kd.R_reads' HO193.out).2.2; have hcut18 := cut_to (P := Try.prog) 25 5 .i64 Try.underlying25 hi018 Ao19 t191.length co19 (l0.length : Int) (of_decide_eq_true (by first | (with_reducible assumption) | assumption)) q18 hroom18; have hr18 := Kd.C_take (m := ((l0.length : Int) : Int).toNat) hC18 (by omega); have hy18 : y198.length = ((l0.length : Int) : Int).toNat := (by rw [Ny198.out, List.length_take]; omega); rw [← Ny198.out] at hr18; rw [← hy18] at hcut18; have HR201 := Aside0.mk hr18; have HC201 := Aside0.mk (show y198.length ≤ co19 from by omega); clear hr18 hC18 hroom18 hi018 hsz18; have KY18 := Aside0.mk hy18; clear hy18; have KL18 := Aside0.mk (show ((l0.length : Int) : Int).toNat ≤ t191.length from by omega); replace q18 := eq_true q18) | ((with_reducible refine gate_callee (f := 19) rfl ?_); refine goesL_ (some 33) rfl rfl Try.func19 (by kernel_rfl) rfl #[.slice Ao19 y198.length co19, .int .i64 a1, .int .i64 a2] rfl (by (try simp only [List.map_toArray, List.map_cons, List.map_nil]); first | done | rfl | (simp only [List.length_drop, List.length_take]; rfl)) ?_; (with_reducible refine (bits_Unpack.calls k _ _ y198 a1 a2 t202 t203 _ ?side1 ?side2 A10.out).mono ?_); (case side1 => repeat (first | exact (by repeat (first | (with_reducible exact HR201.out) | (with_reducible refine Kd.C_alloc ?_ _) | (with_reducible refine Kd.C_drewN ?_ _) | (with_reducible refine Kd.C_drew ?_) | exact HR201.out)) | (with_reducible refine Kd.C_alloc ?_ _) | (with_reducible refine Kd.C_drewN ?_ _) | (with_reducible refine Kd.C_drew ?_))); (case side2 => exact HC201.out); rintro e w20 ⟨v204, rfl, ho0, hb⟩; refine ⟨_, rfl, ?_⟩; have n0_ := Aside0.mk (Kd.R_below (by (with_reducible repeat (first | apply Kd.R_alloc | apply Kd.R_drewN | apply Kd.R_drew)); exact HO193.out) hb); have n1_ := Aside0.mk (Kd.R_elder' (by (with_reducible repeat (first | apply Kd.R_alloc | apply Kd.R_drewN | apply Kd.R_drew)); exact HO197.out) (Kd.R_base ho0) hb); have n2_ := Aside0.mk (Kd.R_lower (Kd.R_new' ho0 (Kd.R_lt (by (with_reducible repeat (first | apply Kd.R_alloc | apply Kd.R_drewN | apply Kd.R_drew)); exact HO197.out))) (below_size (by repeat (first | (with_reducible first | exact HB.out | apply below_alloc | apply pw_below_drewN | apply below_drew1) | exact HB.out)))); have n3_ := Aside0.mk (Kd.C_below (by repeat (first | (with_reducible exact HR201.out) | (with_reducible refine Kd.C_alloc ?_ _) | (with_reducible refine Kd.C_drewN ?_ _) | (with_reducible refine Kd.C_drew ?_) | exact HR201.out)) hb); have n4_ := Aside0.mk (below_step (by repeat (first | (with_reducible first | exact HB.out | apply below_alloc | apply pw_below_drewN | apply below_drew1) | exact HB.out)) hb); clear HO193; clear HO197; clear HR201; clear HB; have HO193 := n0_; have HO197 := n1_; have HO205 := n2_; have HR201 := n3_; have HB := n4_; clear n0_ n1_ n2_ n3_ n4_; (try clear hb); (try clear hb2); (try clear hk); (try clear hi); (try clear ho0); have q21 : ((l0.length : Int) : Int) ≤ ((t191.length : Int) : Int) := of_decide_eq_true (by first | (with_reducible assumption) | assumption); obtain ⟨i021, hi021, _, hsz21, _⟩ := info_parts info5; have hroom21 : t191.length ≤ co19 := (Kd.R_reads' HO193.out).2.1; have hC21 : Kd.C (Kd.int .u8) _ Ao19 t191.length t191 := (Kd.R_reads' HO193.out).2.2; have hcut21 := cut_to (P := Try.prog) 25 5 .i64 Try.underlying25 hi021 Ao19 t191.length co19 (l0.length : Int) (of_decide_eq_true (by first | (with_reducible assumption) | assumption)) q21 hroom21; have hr21 := Kd.C_take (m := ((l0.length : Int) : Int).toNat) hC21 (by omega); have hy21 : y198.length = ((l0.length : Int) : Int).toNat := (by rw [Ny198.out, List.length_take]; omega); rw [← Ny198.out] at hr21; rw [← hy21] at hcut21; have HR209 := Aside0.mk hr21; have HC209 := Aside0.mk (show y198.length ≤ co19 from by omega); clear hr21 hC21 hroom21 hi021 hsz21; have KY21 := Aside0.mk hy21; clear hy21; have KL21 := Aside0.mk (show ((l0.length : Int) : Int).toNat ≤ t191.length from by omega); replace q21 := eq_true q21) | ((with_reducible refine gate_callee (f := 19) rfl ?_); refine goesL_ (some 43) rfl rfl Try.func19 (by kernel_rfl) rfl #[.slice Ao19 y198.length co19, .int .i64 a1, .int .i64 a2] rfl (by (try simp only [List.map_toArray, List.map_cons, List.map_nil]); first | done | rfl | (simp only [List.length_drop, List.length_take]; rfl)) ?_; (with_reducible refine (bits_Unpack.calls k _ _ y198 a1 a2 t210 t211 _ ?side1 ?side2 A13.out).mono ?_); (case side1 => repeat (first | exact (by repeat (first | (with_reducible exact HR209.out) | (with_reducible refine Kd.C_alloc ?_ _) | (with_reducible refine Kd.C_drewN ?_ _) | (with_reducible refine Kd.C_drew ?_) | exact HR209.out)) | (with_reducible refine Kd.C_alloc ?_ _) | (with_reducible refine Kd.C_drewN ?_ _) | (with_reducible refine Kd.C_drew ?_))); (case side2 => exact HC209.out); rintro e w22 ⟨v212, rfl, ho0, hb⟩; refine ⟨_, rfl, ?_⟩; have n0_ := Aside0.mk (Kd.R_below (by (with_reducible repeat (first | apply Kd.R_alloc | apply Kd.R_drewN | apply Kd.R_drew)); exact HO193.out) hb); have n1_ := Aside0.mk (Kd.R_elder' (by (with_reducible repeat (first | apply Kd.R_alloc | apply Kd.R_drewN | apply Kd.R_drew)); exact HO197.out) (Kd.R_base ho0) hb); have n2_ := Aside0.mk (Kd.R_elder' (by (with_reducible repeat (first | apply Kd.R_alloc | apply Kd.R_drewN | apply Kd.R_drew)); exact HO205.out) (Kd.R_base ho0) hb); have n3_ := Aside0.mk (Kd.R_lower (Kd.R_new' (Kd.R_new' ho0 (Kd.R_lt (by (with_reducible repeat (first | apply Kd.R_alloc | apply Kd.R_drewN | apply Kd.R_drew)); exact HO197.out))) (Kd.R_lt (by (with_reducible repeat (first | apply Kd.R_alloc | apply Kd.R_drewN | apply Kd.R_drew)); exact HO205.out))) (below_size (by repeat (first | (with_reducible first | exact HB.out | apply below_alloc | apply pw_below_drewN | apply below_drew1) | exact HB.out)))); have n4_ := Aside0.mk (Kd.C_below (by repeat (first | (with_reducible exact HR201.out) | (with_reducible refine Kd.C_alloc ?_ _) | (with_reducible refine Kd.C_drewN ?_ _) | (with_reducible refine Kd.C_drew ?_) | exact HR201.out)) hb); have n5_ := Aside0.mk (Kd.C_below (by repeat (first | (with_reducible exact HR209.out) | (with_reducible refine Kd.C_alloc ?_ _) | (with_reducible refine Kd.C_drewN ?_ _) | (with_reducible refine Kd.C_drew ?_) | exact HR209.out)) hb); have n6_ := Aside0.mk (below_step (by repeat (first | (with_reducible first | exact HB.out | apply below_alloc | apply pw_below_drewN | apply below_drew1) | exact HB.out)) hb); clear HO193; clear HO197; clear HO205; clear HR201; clear HR209; clear HB; have HO193 := n0_; have HO197 := n1_; have HO205 := n2_; have HO213 := n3_; have HR201 := n4_; have HR209 := n5_; have HB := n6_; clear n0_ n1_ n2_ n3_ n4_ n5_ n6_; (try clear hb); (try clear hb2); (try clear hk); (try clear hi); (try clear ho0)))
        (try simp only [Act.put, List.setIfInBounds_toArray, List.set_cons_zero, List.set_cons_succ])
        go_cut [65] (fun v65 wc => ∃ (kq : Nat) (x65_13 : Bool), v65 = .bool x65_13 ∧ Aside0 (stoalaw01_BitsUnpacks.j0 kq l0 t191 t194 t202 t210 x65_13 = some r) ∧ Aside0 (kq ≤ k) ∧ Aside0 (Kd.R (Kd.int .u8) 5 wc w.heap.size (fun _ => True) (.slice Ao19 t191.length co19) t191) ∧ Aside0 (Kd.R (Kd.int .u64) 41 wc w.heap.size (fun k_ => some k_ ≠ (v204 : Value).ownBlock ∧ some k_ ≠ (v212 : Value).ownBlock) v196 t194) ∧ Aside0 (Kd.R (Kd.int .u64) 41 wc w.heap.size (fun k_ => some k_ ≠ (v196 : Value).ownBlock ∧ some k_ ≠ (v212 : Value).ownBlock) v204 t202) ∧ Aside0 (Kd.R (Kd.int .u64) 41 wc w.heap.size (fun k_ => some k_ ≠ (v196 : Value).ownBlock ∧ some k_ ≠ (v204 : Value).ownBlock) v212 t210) ∧ Aside0 (Kd.C (Kd.int .u8) wc Ao19 y198.length y198) ∧ Aside0 (Kd.C (Kd.int .u8) wc Ao19 y198.length y198) ∧ Aside0 (Below w.heap.size w wc))
        case first =>
          have H := HC14.out
          clear HC14
          by_cases c23 : t203 = t195
          · rw [if_pos c23] at H
            have c23b0 : (t203 == t195) = true := beq_iff_eq.mpr c23
            have c23b1 : (t203 != t195) = false := bne_eq_false_iff_eq.mpr c23
            clear c23
            (first | rw [c23b0] | (simp only [i64_w, i32_w]; rw [c23b0]) | skip)
            by_cases c24 : t211 = t203
            · rw [if_pos c24] at H
              have c24b0 : (t211 == t203) = true := beq_iff_eq.mpr c24
              have c24b1 : (t211 != t203) = false := bne_eq_false_iff_eq.mpr c24
              clear c24
              replace H := Option.bind_eq_some_iff.mp H
              obtain ⟨t214, A250, H⟩ := H
              replace H : (if t214 = true then ((stoaref01_SameNumbers.f k t210 t194).bind fun t215 => (stoalaw01_BitsUnpacks.j0 k l0 t191 t194 t202 t210 (!t215))) else (stoalaw01_BitsUnpacks.j0 k l0 t191 t194 t202 t210 true)) = some r := H
              have A25 := Aside0.mk A250
              clear A250
              by_cases c26 : t214 = true
              · subst c26
                have H1 : ((stoaref01_SameNumbers.f k t210 t194).bind fun t215 => (stoalaw01_BitsUnpacks.j0 k l0 t191 t194 t202 t210 (!t215))) = some r := by rw [if_pos rfl] at H; exact H
                clear H
                have H := H1
                clear H1
                replace H := Option.bind_eq_some_iff.mp H
                obtain ⟨t215, A270, H⟩ := H
                replace H : (stoalaw01_BitsUnpacks.j0 k l0 t191 t194 t202 t210 (!t215)) = some r := H
                have A27 := Aside0.mk A270
                clear A270
                have H' := Aside0.mk H
                clear H
                obtain ⟨Ao28, co28, eo28⟩ := Kd.R_slice HO205.out
                subst eo28
                obtain ⟨Ao29, co29, eo29⟩ := Kd.R_slice HO197.out
                subst eo29
                go_wp2_with (first | (go_at_call 15; (with_reducible refine (stoaref01_SameNumbers.calls k _ _ t202 _ _ t194 true _ ?side1 ?side2 ?side3 ?side4 A25.out).mono ?_); (case side1 => repeat (first | exact (Kd.R_reads' HO205.out).2.2 | (with_reducible refine Kd.C_alloc ?_ _) | (with_reducible refine Kd.C_drewN ?_ _) | (with_reducible refine Kd.C_drew ?_))); (case side2 => exact (Kd.R_reads' HO205.out).2.1); (case side3 => repeat (first | exact (Kd.R_reads' HO197.out).2.2 | (with_reducible refine Kd.C_alloc ?_ _) | (with_reducible refine Kd.C_drewN ?_ _) | (with_reducible refine Kd.C_drew ?_))); (case side4 => exact (Kd.R_reads' HO197.out).2.1); rintro e w' ⟨rfl, ⟨nd, rfl⟩⟩; obtain ⟨Ao30, co30, eo30⟩ := Kd.R_slice HO213.out; subst eo30) | (go_at_call 15; (with_reducible refine (stoaref01_SameNumbers.calls k _ _ t210 _ _ t194 t215 _ ?side1 ?side2 ?side3 ?side4 A27.out).mono ?_); (case side1 => repeat (first | exact (Kd.R_reads' HO213.out).2.2 | (with_reducible refine Kd.C_alloc ?_ _) | (with_reducible refine Kd.C_drewN ?_ _) | (with_reducible refine Kd.C_drew ?_))); (case side2 => exact (Kd.R_reads' HO213.out).2.1); (case side3 => repeat (first | exact (Kd.R_reads' HO197.out).2.2 | (with_reducible refine Kd.C_alloc ?_ _) | (with_reducible refine Kd.C_drewN ?_ _) | (with_reducible refine Kd.C_drew ?_))); (case side4 => exact (Kd.R_reads' HO197.out).2.1); rintro e w' ⟨rfl, ⟨nd, rfl⟩⟩))
                go_meet
                case rel => exact ⟨_, (!t215), (by first | rfl | (simp; done) | (simp [*]; done)), H', ⟨by first | omega | exact Nat.le_refl _⟩, ⟨by (with_reducible repeat (first | apply Kd.R_alloc | apply Kd.R_drewN | apply Kd.R_drew)); exact HO193.out⟩, ⟨by (with_reducible repeat (first | apply Kd.R_alloc | apply Kd.R_drewN | apply Kd.R_drew)); exact Kd.R_mono HO197.out (fun _ hk => ⟨hk.1.2, hk.2⟩)⟩, ⟨by (with_reducible repeat (first | apply Kd.R_alloc | apply Kd.R_drewN | apply Kd.R_drew)); exact Kd.R_mono HO205.out (fun _ hk => ⟨hk.1.2, hk.2⟩)⟩, ⟨by (with_reducible repeat (first | apply Kd.R_alloc | apply Kd.R_drewN | apply Kd.R_drew)); exact Kd.R_mono HO213.out (fun _ hk => ⟨hk.1.2, hk.2⟩)⟩, ⟨by repeat (first | (with_reducible exact HR201.out) | (with_reducible refine Kd.C_alloc ?_ _) | (with_reducible refine Kd.C_drewN ?_ _) | (with_reducible refine Kd.C_drew ?_) | exact HR201.out)⟩, ⟨by repeat (first | (with_reducible exact HR209.out) | (with_reducible refine Kd.C_alloc ?_ _) | (with_reducible refine Kd.C_drewN ?_ _) | (with_reducible refine Kd.C_drew ?_) | exact HR209.out)⟩, ⟨by repeat (first | (with_reducible first | exact HB.out | apply below_alloc | apply pw_below_drewN | apply below_drew1) | exact HB.out)⟩⟩
              · replace c26 := Bool.eq_false_iff.mpr c26
                subst c26
                have H1 : (stoalaw01_BitsUnpacks.j0 k l0 t191 t194 t202 t210 true) = some r := by rw [if_neg (show ¬ (false = true) by decide)] at H; exact H
                clear H
                have H := H1
                clear H1
                have H' := Aside0.mk H
                clear H
                obtain ⟨Ao31, co31, eo31⟩ := Kd.R_slice HO205.out
                subst eo31
                obtain ⟨Ao32, co32, eo32⟩ := Kd.R_slice HO197.out
                subst eo32
                go_wp2_with (first | (go_at_call 15; (with_reducible refine (stoaref01_SameNumbers.calls k _ _ t202 _ _ t194 false _ ?side1 ?side2 ?side3 ?side4 A25.out).mono ?_); (case side1 => repeat (first | exact (Kd.R_reads' HO205.out).2.2 | (with_reducible refine Kd.C_alloc ?_ _) | (with_reducible refine Kd.C_drewN ?_ _) | (with_reducible refine Kd.C_drew ?_))); (case side2 => exact (Kd.R_reads' HO205.out).2.1); (case side3 => repeat (first | exact (Kd.R_reads' HO197.out).2.2 | (with_reducible refine Kd.C_alloc ?_ _) | (with_reducible refine Kd.C_drewN ?_ _) | (with_reducible refine Kd.C_drew ?_))); (case side4 => exact (Kd.R_reads' HO197.out).2.1); rintro e w' ⟨rfl, ⟨nd, rfl⟩⟩))
                go_meet
                case rel => exact ⟨_, (true), (by first | rfl | (simp; done) | (simp [*]; done)), H', ⟨by first | omega | exact Nat.le_refl _⟩, ⟨by (with_reducible repeat (first | apply Kd.R_alloc | apply Kd.R_drewN | apply Kd.R_drew)); exact HO193.out⟩, ⟨by (with_reducible repeat (first | apply Kd.R_alloc | apply Kd.R_drewN | apply Kd.R_drew)); exact Kd.R_mono HO197.out (fun _ hk => ⟨hk.1.2, hk.2⟩)⟩, ⟨by (with_reducible repeat (first | apply Kd.R_alloc | apply Kd.R_drewN | apply Kd.R_drew)); exact Kd.R_mono HO205.out (fun _ hk => ⟨hk.1.2, hk.2⟩)⟩, ⟨by (with_reducible repeat (first | apply Kd.R_alloc | apply Kd.R_drewN | apply Kd.R_drew)); exact Kd.R_mono HO213.out (fun _ hk => ⟨hk.1.2, hk.2⟩)⟩, ⟨by repeat (first | (with_reducible exact HR201.out) | (with_reducible refine Kd.C_alloc ?_ _) | (with_reducible refine Kd.C_drewN ?_ _) | (with_reducible refine Kd.C_drew ?_) | exact HR201.out)⟩, ⟨by repeat (first | (with_reducible exact HR209.out) | (with_reducible refine Kd.C_alloc ?_ _) | (with_reducible refine Kd.C_drewN ?_ _) | (with_reducible refine Kd.C_drew ?_) | exact HR209.out)⟩, ⟨by repeat (first | (with_reducible first | exact HB.out | apply below_alloc | apply pw_below_drewN | apply below_drew1) | exact HB.out)⟩⟩
            · rw [if_neg c24] at H
              have c24b0 : (t211 == t203) = false := beq_eq_false_iff_ne.mpr c24
              have c24b1 : (t211 != t203) = true := bne_iff_ne.mpr c24
              have H' := Aside0.mk H
              clear H
              go_wp2
              go_meet
              case rel => exact ⟨_, (true), (by first | rfl | (simp; done) | (simp [*]; done)), H', ⟨by first | omega | exact Nat.le_refl _⟩, ⟨by (with_reducible repeat (first | apply Kd.R_alloc | apply Kd.R_drewN | apply Kd.R_drew)); exact HO193.out⟩, ⟨by (with_reducible repeat (first | apply Kd.R_alloc | apply Kd.R_drewN | apply Kd.R_drew)); exact Kd.R_mono HO197.out (fun _ hk => ⟨hk.1.2, hk.2⟩)⟩, ⟨by (with_reducible repeat (first | apply Kd.R_alloc | apply Kd.R_drewN | apply Kd.R_drew)); exact Kd.R_mono HO205.out (fun _ hk => ⟨hk.1.2, hk.2⟩)⟩, ⟨by (with_reducible repeat (first | apply Kd.R_alloc | apply Kd.R_drewN | apply Kd.R_drew)); exact Kd.R_mono HO213.out (fun _ hk => ⟨hk.1.2, hk.2⟩)⟩, ⟨by repeat (first | (with_reducible exact HR201.out) | (with_reducible refine Kd.C_alloc ?_ _) | (with_reducible refine Kd.C_drewN ?_ _) | (with_reducible refine Kd.C_drew ?_) | exact HR201.out)⟩, ⟨by repeat (first | (with_reducible exact HR209.out) | (with_reducible refine Kd.C_alloc ?_ _) | (with_reducible refine Kd.C_drewN ?_ _) | (with_reducible refine Kd.C_drew ?_) | exact HR209.out)⟩, ⟨by repeat (first | (with_reducible first | exact HB.out | apply below_alloc | apply pw_below_drewN | apply below_drew1) | exact HB.out)⟩⟩
          · rw [if_neg c23] at H
            have c23b0 : (t203 == t195) = false := beq_eq_false_iff_ne.mpr c23
            have c23b1 : (t203 != t195) = true := bne_iff_ne.mpr c23
            (first | rw [c23b0] | (simp only [i64_w, i32_w]; rw [c23b0]) | skip)
            have H' := Aside0.mk H
            clear H
            go_wp2
            go_meet
            case rel => exact ⟨_, (true), (by first | rfl | (simp; done) | (simp [*]; done)), H', ⟨by first | omega | exact Nat.le_refl _⟩, ⟨by (with_reducible repeat (first | apply Kd.R_alloc | apply Kd.R_drewN | apply Kd.R_drew)); exact HO193.out⟩, ⟨by (with_reducible repeat (first | apply Kd.R_alloc | apply Kd.R_drewN | apply Kd.R_drew)); exact Kd.R_mono HO197.out (fun _ hk => ⟨hk.1.2, hk.2⟩)⟩, ⟨by (with_reducible repeat (first | apply Kd.R_alloc | apply Kd.R_drewN | apply Kd.R_drew)); exact Kd.R_mono HO205.out (fun _ hk => ⟨hk.1.2, hk.2⟩)⟩, ⟨by (with_reducible repeat (first | apply Kd.R_alloc | apply Kd.R_drewN | apply Kd.R_drew)); exact Kd.R_mono HO213.out (fun _ hk => ⟨hk.1.2, hk.2⟩)⟩, ⟨by repeat (first | (with_reducible exact HR201.out) | (with_reducible refine Kd.C_alloc ?_ _) | (with_reducible refine Kd.C_drewN ?_ _) | (with_reducible refine Kd.C_drew ?_) | exact HR201.out)⟩, ⟨by repeat (first | (with_reducible exact HR209.out) | (with_reducible refine Kd.C_alloc ?_ _) | (with_reducible refine Kd.C_drewN ?_ _) | (with_reducible refine Kd.C_drew ?_) | exact HR209.out)⟩, ⟨by repeat (first | (with_reducible first | exact HB.out | apply below_alloc | apply pw_below_drewN | apply below_drew1) | exact HB.out)⟩⟩
        case rest =>
          clear HC14
          try clear c1
          try clear q1
          try clear c2
          try clear p2
          try clear q2
          try clear c4
          try clear c5
          try clear c8
          try clear c8b0
          try clear c8b1
          try clear c9
          try clear c9b0
          try clear c9b1
          try clear c11
          try clear c11b0
          try clear c12
          try clear c12b0
          try clear c17
          try clear c18
          try clear q18
          try clear c19
          try clear q21
          try clear c23
          try clear c23b0
          try clear c23b1
          try clear c24
          try clear c24b0
          try clear c24b1
          try clear c26
          try clear q18
          try clear q21
          obtain ⟨kq, x65_13, rfl, HA, HJ13, HO_7, HO_8, HO_10, HO_12, HR201, HR209, HB⟩ := hcut
          cases kq with
          | zero => exact absurd HA.out (by simp [stoalaw01_BitsUnpacks.j0])
          | succ kj13 =>
            have H := HA.out
            clear HA
            simp only [stoalaw01_BitsUnpacks.j0] at H
            by_cases c33 : x65_13 = true
            · subst c33
              have H1 : (some false) = some r := by rw [if_pos rfl] at H; exact H
              clear H
              have H := H1
              clear H1
              obtain rfl := Option.some.inj H
              go_wp2
              go_ret
              exact ⟨by first | rfl | (simp [errW_none, errW_some] <;> rfl) | (simp [*, errW_none, errW_some] <;> rfl), by repeat (first | (with_reducible first | exact HB.out | apply below_alloc | apply pw_below_drewN | apply below_drew1) | exact HB.out)⟩
            · replace c33 := Bool.eq_false_iff.mpr c33
              subst c33
              have H1 : (stoalaw01_BitsUnpacks.l0 kj13 l0 t191 t194 t202 t210 (t202.length : Int) 0) = some r := by rw [if_neg (show ¬ (false = true) by decide)] at H; exact H
              clear H
              have H := H1
              clear H1
              have H' := Aside0.mk H
              clear H
              obtain ⟨Ao34, co34, eo34⟩ := Kd.R_slice HO_10.out
              subst eo34
              go_wp2
              go_loopg [68] kj13 (fun kq v68 w' => ∃ (x10_2 : List Int) (x68_2 : Int), v68 = .int .i64 x68_2 ∧ Aside0 (stoalaw01_BitsUnpacks.l0 kq l0 t191 t194 x10_2 t210 (t202.length : Int) x68_2 = some r) ∧ Aside0 (kq ≤ kj13) ∧ Aside0 (Kd.R (Kd.int .u8) 5 w' w.heap.size (fun _ => True) (.slice Ao19 t191.length co19) t191) ∧ Aside0 (Kd.R (Kd.int .u64) 41 w' w.heap.size (fun k_ => some k_ ≠ ((.slice Ao34 t202.length co34) : Value).ownBlock ∧ some k_ ≠ (v212 : Value).ownBlock) v196 t194) ∧ Aside0 (Kd.R (Kd.int .u64) 41 w' w.heap.size (fun k_ => some k_ ≠ (v196 : Value).ownBlock ∧ some k_ ≠ (v212 : Value).ownBlock) (.slice Ao34 t202.length co34) x10_2) ∧ Aside0 (Kd.R (Kd.int .u64) 41 w' w.heap.size (fun k_ => some k_ ≠ (v196 : Value).ownBlock ∧ some k_ ≠ ((.slice Ao34 t202.length co34) : Value).ownBlock) v212 t210) ∧ Aside0 (Below w.heap.size w w'))
              case atStart => exact ⟨(t202), (0), (by first | rfl | (simp; done) | (simp [*]; done)), H', ⟨Nat.le_refl _⟩, ⟨by (with_reducible repeat (first | apply Kd.R_alloc | apply Kd.R_drewN | apply Kd.R_drew)); exact HO_7.out⟩, ⟨by (with_reducible repeat (first | apply Kd.R_alloc | apply Kd.R_drewN | apply Kd.R_drew)); exact HO_8.out⟩, ⟨by (with_reducible repeat (first | apply Kd.R_alloc | apply Kd.R_drewN | apply Kd.R_drew)); exact HO_10.out⟩, ⟨by (with_reducible repeat (first | apply Kd.R_alloc | apply Kd.R_drewN | apply Kd.R_drew)); exact HO_12.out⟩, ⟨by repeat (first | (with_reducible first | exact HB.out | apply below_alloc | apply pw_below_drewN | apply below_drew1) | exact HB.out)⟩⟩
              case round =>
                clear H'
                try clear c1
                try clear q1
                try clear c2
                try clear p2
                try clear q2
                try clear c3
                try clear c4
                try clear c5
                try clear c8
                try clear c8b0
                try clear c8b1
                try clear c9
                try clear c9b0
                try clear c9b1
                try clear c11
                try clear c11b0
                try clear c12
                try clear c12b0
                try clear c17
                try clear c18
                try clear q18
                try clear c19
                try clear q21
                try clear c23
                try clear c23b0
                try clear c23b1
                try clear c24
                try clear c24b0
                try clear c24b1
                try clear c26
                try clear c33
                try clear p2
                try clear q1
                try clear q18
                try clear q2
                try clear q21
                obtain ⟨x10_2, x68_2, rfl, HA, HK2, HO_7, HO_8, HO_10, HO_12, HB⟩ := hrel
                have hl10_2 := (Kd.R_reads' HO_10.out).1
                rw [hl10_2] at HO_10
                (try simp only [hl10_2])
                (try simp only [hl10_2] at HO_7)
                (try simp only [hl10_2] at HO_8)
                (try simp only [hl10_2] at HO_12)
                cases gk with
                | zero => exact absurd HA.out (by simp [stoalaw01_BitsUnpacks.l0])
                | succ k2 =>
                  have H := HA.out
                  clear HA
                  simp only [stoalaw01_BitsUnpacks.l0] at H
                  by_cases c35 : x68_2 < (t202.length : Int)
                  · rw [if_pos c35] at H
                    have c35b0 : decide (x68_2 < (t202.length : Int)) = true := decide_eq_true c35
                    clear c35
                    by_cases c36 : 0 ≤ x68_2
                    · rw [if_pos c36] at H
                      have c36b0 : decide (0 ≤ x68_2) = true := decide_eq_true c36
                      clear c36
                      by_cases c37 : x68_2 < (x10_2.length : Int)
                      · rw [if_pos c37] at H
                        have c37b0 : decide (x68_2 < (x10_2.length : Int)) = true := decide_eq_true c37
                        clear c37
                        obtain ⟨y217, hy217⟩ : ∃ y_ : List Int, y_ = (x10_2.set (x68_2 : Int).toNat (IntKind.u64.wrap ((rd x10_2 x68_2) + 1))) := ⟨_, rfl⟩
                        replace H : (stoalaw01_BitsUnpacks.l0 k2 l0 t191 t194 y217 t210 (t202.length : Int) (wrap64 (x68_2 + 1))) = some r := by first | (rw [hy217]; with_reducible exact H) | (have H2_ := (Option.bind_some _ _).symm.trans H; rw [hy217]; with_reducible exact H2_) | (have H2_ := (Option.bind_some _ _).symm.trans H; with_reducible exact H2_) | with_reducible exact H | (rw [hy217]; exact H) | exact H
                        have Ny217 := Aside0.mk hy217
                        clear hy217
                        have H' := Aside0.mk H
                        clear H
                        have p216 : 0 ≤ (x68_2 : Int) := of_decide_eq_true (by first | (with_reducible assumption) | assumption)
                        have q216 : x68_2 < (x10_2.length : Int) := of_decide_eq_true (by first | (with_reducible assumption) | assumption)
                        obtain ⟨ad216, e216, hx216_0⟩ := Kd.at_int (Kd.R_reads' HO_10.out).2.2 x68_2 p216 q216
                        cases e216
                        replace p216 := eq_true p216
                        replace q216 := eq_true q216
                        have p38 : 0 ≤ (x68_2 : Int) := of_decide_eq_true (by first | (with_reducible assumption) | assumption)
                        have q38 : (x68_2 : Int) < ((x10_2.length : Int) : Int) := of_decide_eq_true (by first | (with_reducible assumption) | assumption)
                        obtain ⟨go38, co38, eo38, gb38, gl38, cl38, HG38⟩ := Kd.R_form HO_10.out (by omega)
                        (first | cases eo38 | (injection eo38 with ea_ en_ ec_; (first | subst ea_ | (injection ea_ with ea_; subst ea_)); subst ec_; clear en_))
                        have GB38 := Aside0.mk gb38
                        have GG38 := Aside0.mk HG38
                        clear gb38 gl38 HG38
                        (first | simp only [add_plain] at hx216_0 | skip)
                        obtain ⟨hx38_0, hf38_0⟩ := Kd.R_celln 0 HO_10.out (x68_2 : Int) p38 q38
                        replace p38 := eq_true p38
                        replace q38 := eq_true q38
                        have HP39 := Kd.R_putg HO_10.out (x68_2 : Int) (IntKind.u64.wrap ((rd x10_2 x68_2) + 1))
                        go_wp2_with (first | ((with_reducible refine gate_store (t := 41) (p := 78) rfl ?_); refine store_event (t := 41) (p := 78) (v := ?vo_w40) (w1 := (wr.setCell ⟨go38, (x68_2 : Int).toNat, none⟩ (.int .u64 (IntKind.u64.wrap ((rd x10_2 x68_2) + 1))))) ?hg ?ho ?hn ?hr ?_; (case ho => rfl); (case hg => rfl); (case hn => rfl); (case hr => first | (go_simp; done) | (go_simp; rfl)); intro w40 hw; have hg : wr.grownBy w40 (some go38) := (by rw [hw]; exact HP39.2); have hp_ : Kd.R (Kd.int .u64) 41 w40 w.heap.size (fun k_ => some k_ ≠ (v196 : Value).ownBlock ∧ some k_ ≠ (v212 : Value).ownBlock) (.slice (some ⟨go38, 0, none⟩) x10_2.length co34) y217 := (by rw [hw, Ny217.out]; exact HP39.1); clear HP39; have n0_ := Aside0.mk (Kd.R_over' (v := (.slice (some ⟨go38, 0, none⟩) x10_2.length co34)) (by (with_reducible repeat (first | apply Kd.R_alloc | apply Kd.R_drewN | apply Kd.R_drew)); exact HO_7.out) (Kd.R_typed HO_10.out) (by decide) hg); have n1_ := Aside0.mk (Kd.R_after (v := (.slice (some ⟨go38, 0, none⟩) x10_2.length co34)) (v1 := (.slice (some ⟨go38, 0, none⟩) x10_2.length co34)) (ok := (fun k_ => some k_ ≠ (v212 : Value).ownBlock)) (by (with_reducible repeat (first | apply Kd.R_alloc | apply Kd.R_drewN | apply Kd.R_drew)); exact Kd.R_mono HO_8.out (fun _ hk => ⟨hk.2, hk.1⟩)) hg (.inl rfl)); have n2_ := Aside0.mk (hp_); have n3_ := Aside0.mk (Kd.R_after (v := (.slice (some ⟨go38, 0, none⟩) x10_2.length co34)) (v1 := (.slice (some ⟨go38, 0, none⟩) x10_2.length co34)) (ok := (fun k_ => some k_ ≠ (v196 : Value).ownBlock)) (by (with_reducible repeat (first | apply Kd.R_alloc | apply Kd.R_drewN | apply Kd.R_drew)); exact HO_12.out) hg (.inl rfl)); have n4_ := Aside0.mk ((by rw [hw]; exact below_set (HB.out) GB38.out : Below w.heap.size w w40)); clear HO_7; clear HO_8; clear HO_10; clear HO_12; clear HB; have HO_7 := n0_; have HO_8 := n1_; have HO_10 := n2_; have HO_12 := n3_; have HB := n4_; clear n0_ n1_ n2_ n3_ n4_; clear hg hw hp_))
                        (try simp only [← hl10_2])
                        go_roundg k2
                        case measure => have := HJ13.out; have := HK2.out; omega
                        case rel => exact ⟨(y217), (wrap64 (x68_2 + 1)), (by first | rfl | (simp; done) | (simp [*]; done)), H', ⟨by have := HJ13.out; have := HK2.out; omega⟩, ⟨by (try simp only [hl10_2]); (with_reducible repeat (first | apply Kd.R_alloc | apply Kd.R_drewN | apply Kd.R_drew)); exact HO_7.out⟩, ⟨by (try simp only [hl10_2]); (with_reducible repeat (first | apply Kd.R_alloc | apply Kd.R_drewN | apply Kd.R_drew)); exact Kd.R_mono HO_8.out (fun _ hk => ⟨hk.2, hk.1⟩)⟩, ⟨by (try simp only [hl10_2]); (with_reducible repeat (first | apply Kd.R_alloc | apply Kd.R_drewN | apply Kd.R_drew)); exact HO_10.out⟩, ⟨by (try simp only [hl10_2]); (with_reducible repeat (first | apply Kd.R_alloc | apply Kd.R_drewN | apply Kd.R_drew)); exact HO_12.out⟩, ⟨by repeat (first | (with_reducible first | exact HB.out | apply below_alloc | apply pw_below_drewN | apply below_drew1) | exact HB.out)⟩⟩
                      · rw [if_neg c37] at H
                        exact absurd H (by simp)
                    · rw [if_neg c36] at H
                      exact absurd H (by simp)
                  · rw [if_neg c35] at H
                    have c35b0 : decide (x68_2 < (t202.length : Int)) = false := decide_eq_false c35
                    (try (have c35b0r := c35b0; simp only [hl10_2] at c35b0r))
                    clear c35
                    replace H := Option.bind_eq_some_iff.mp H
                    obtain ⟨t218, A410, H⟩ := H
                    replace H : (if t218 = true then ((stoaref01_Intact.f k2 t191 l0).bind fun t219 => (some t219)) else (some false)) = some r := H
                    have A41 := Aside0.mk A410
                    clear A410
                    by_cases c42 : t218 = true
                    · subst c42
                      have H1 : ((stoaref01_Intact.f k2 t191 l0).bind fun t219 => (some t219)) = some r := by rw [if_pos rfl] at H; exact H
                      clear H
                      have H := H1
                      clear H1
                      replace H := Option.bind_eq_some_iff.mp H
                      obtain ⟨t219, A430, H⟩ := H
                      replace H : (some t219) = some r := H
                      have A43 := Aside0.mk A430
                      clear A430
                      obtain rfl := Option.some.inj H
                      obtain ⟨Ao44, co44, eo44⟩ := Kd.R_slice HO_12.out
                      subst eo44
                      obtain ⟨Ao45, co45, eo45⟩ := Kd.R_slice HO_8.out
                      subst eo45
                      go_wp2_with (first | ((with_reducible refine gate_callee (f := 15) rfl ?_); refine goesL_ (some 82) rfl rfl Try.func15 (by kernel_rfl) rfl #[.slice Ao44 t210.length co44, .slice Ao45 t194.length co45] rfl (by (try simp only [List.map_toArray, List.map_cons, List.map_nil]); first | done | rfl | (simp only [List.length_drop, List.length_take]; rfl)) ?_; (with_reducible refine (stoaref01_SameNumbers.calls k2 _ _ t210 _ _ t194 true _ ?side1 ?side2 ?side3 ?side4 A41.out).mono ?_); (case side1 => repeat (first | exact (Kd.R_reads' HO_12.out).2.2 | (with_reducible refine Kd.C_alloc ?_ _) | (with_reducible refine Kd.C_drewN ?_ _) | (with_reducible refine Kd.C_drew ?_))); (case side2 => exact (Kd.R_reads' HO_12.out).2.1); (case side3 => repeat (first | exact (Kd.R_reads' HO_8.out).2.2 | (with_reducible refine Kd.C_alloc ?_ _) | (with_reducible refine Kd.C_drewN ?_ _) | (with_reducible refine Kd.C_drew ?_))); (case side4 => exact (Kd.R_reads' HO_8.out).2.1); rintro e w' ⟨rfl, ⟨nd, rfl⟩⟩; refine ⟨_, rfl, ?_⟩) | (go_at_call 20; (with_reducible refine (stoaref01_Intact.calls k2 _ _ t191 _ _ l0 t219 _ ?side1 ?side2 ?side3 ?side4 A43.out).mono ?_); (case side1 => repeat (first | exact (Kd.R_reads' HO_7.out).2.2 | (with_reducible refine Kd.C_alloc ?_ _) | (with_reducible refine Kd.C_drewN ?_ _) | (with_reducible refine Kd.C_drew ?_))); (case side2 => exact (Kd.R_reads' HO_7.out).2.1); (case side3 => repeat (first | exact (Kd.C_below HR0.out (by repeat (first | (with_reducible first | exact HB.out | apply below_alloc | apply pw_below_drewN | apply below_drew1) | exact HB.out))) | (with_reducible refine Kd.C_alloc ?_ _) | (with_reducible refine Kd.C_drewN ?_ _) | (with_reducible refine Kd.C_drew ?_))); (case side4 => exact HC0.out); rintro e w' ⟨rfl, ⟨nd, rfl⟩⟩))
                      go_ret
                      exact ⟨by first | rfl | (simp [errW_none, errW_some] <;> rfl) | (simp [*, errW_none, errW_some] <;> rfl), by repeat (first | (with_reducible first | exact HB.out | apply below_alloc | apply pw_below_drewN | apply below_drew1) | exact HB.out)⟩
                    · replace c42 := Bool.eq_false_iff.mpr c42
                      subst c42
                      have H1 : (some false) = some r := by rw [if_neg (show ¬ (false = true) by decide)] at H; exact H
                      clear H
                      have H := H1
                      clear H1
                      obtain rfl := Option.some.inj H
                      obtain ⟨Ao46, co46, eo46⟩ := Kd.R_slice HO_12.out
                      subst eo46
                      obtain ⟨Ao47, co47, eo47⟩ := Kd.R_slice HO_8.out
                      subst eo47
                      go_wp2_with (first | ((with_reducible refine gate_callee (f := 15) rfl ?_); refine goesL_ (some 82) rfl rfl Try.func15 (by kernel_rfl) rfl #[.slice Ao46 t210.length co46, .slice Ao47 t194.length co47] rfl (by (try simp only [List.map_toArray, List.map_cons, List.map_nil]); first | done | rfl | (simp only [List.length_drop, List.length_take]; rfl)) ?_; (with_reducible refine (stoaref01_SameNumbers.calls k2 _ _ t210 _ _ t194 false _ ?side1 ?side2 ?side3 ?side4 A41.out).mono ?_); (case side1 => repeat (first | exact (Kd.R_reads' HO_12.out).2.2 | (with_reducible refine Kd.C_alloc ?_ _) | (with_reducible refine Kd.C_drewN ?_ _) | (with_reducible refine Kd.C_drew ?_))); (case side2 => exact (Kd.R_reads' HO_12.out).2.1); (case side3 => repeat (first | exact (Kd.R_reads' HO_8.out).2.2 | (with_reducible refine Kd.C_alloc ?_ _) | (with_reducible refine Kd.C_drewN ?_ _) | (with_reducible refine Kd.C_drew ?_))); (case side4 => exact (Kd.R_reads' HO_8.out).2.1); rintro e w' ⟨rfl, ⟨nd, rfl⟩⟩; refine ⟨_, rfl, ?_⟩))
                      go_ret
                      exact ⟨by first | rfl | (simp [errW_none, errW_some] <;> rfl) | (simp [*, errW_none, errW_some] <;> rfl), by repeat (first | (with_reducible first | exact HB.out | apply below_alloc | apply pw_below_drewN | apply below_drew1) | exact HB.out)⟩
      · rw [if_neg c9] at H
        exact absurd H (by simp)
    · rw [if_neg c8] at H
      exact absurd H (by simp)
  · replace c5 := Bool.eq_false_iff.mpr c5
    subst c5
    have H1 : (some false) = some r := by rw [if_neg (show ¬ (false = true) by decide)] at H; exact H
    clear H
    have H := H1
    clear H1
    obtain rfl := Option.some.inj H
    go_enter Try.func4, Try.ntmps4
    go_wp2_with (first | ((with_reducible refine gate_callee (f := 9) rfl ?_); refine goesL_ (some 15) rfl rfl Try.func9 (by kernel_rfl) rfl #[] rfl (by (try simp only [List.map_toArray, List.map_cons, List.map_nil]); first | done | rfl | (simp only [List.length_drop, List.length_take]; rfl)) ?_; (with_reducible refine (stoalaw01_alive.calls k  false _ A4.out).mono ?_); rintro e w48 ⟨rfl, hb⟩; refine ⟨_, rfl, ?_⟩; have n0_ := Aside0.mk (below_step (by repeat (first | (with_reducible first | exact HB.out | apply below_alloc | apply pw_below_drewN | apply below_drew1) | exact HB.out)) hb); clear HB; have HB := n0_; clear n0_; (try clear hb); (try clear hb2); (try clear hk); (try clear hi)))
    go_ret
    exact ⟨by first | rfl | (simp [errW_none, errW_some] <;> rfl) | (simp [*, errW_none, errW_some] <;> rfl), by repeat (first | (with_reducible first | exact HB.out | apply below_alloc | apply pw_below_drewN | apply below_drew1) | exact HB.out)⟩

/-- THE ONE PURE STATEMENT of stoalaw01_BitsUnpacks: yours. -/
def stoalaw01_BitsUnpacks.Pure : Prop := ∀ (l0 : List Int) (a1 : Int) (a2 : Int), l0.length ≤ maxLen → l0.length * 1 ≤ 140737488351232 → (∀ x ∈ l0, (Lit.int .u8 x).wf = true) → (Lit.int .i64 a1).wf = true → (Lit.int .i64 a2).wf = true → ∃ k, stoalaw01_BitsUnpacks.f k l0 a1 a2 = some true
theorem stoalaw01_BitsUnpacks.walk (P : stoalaw01_BitsUnpacks.Pure) (a0 : Option Addr) (len0 cap0 : Nat) (z0 : List Int) (a1 : Int) (a2 : Int) (w : World) (w0 : (a0 = none ∧ len0 = 0 ∧ cap0 = 0 ∧ z0 = []) ∨ ∃ x, a0 = some x ∧ len0 ≤ cap0 ∧ cap0 ≤ maxLen ∧ z0.length = cap0 ∧ (∀ i, i < z0.length → w.cell? (x.add i) = some (.int .u8 (z0.getD i 0))) ∧ ∀ n ∈ z0, (Lit.int .u8 n).wf = true) (y0 : len0 * 1 ≤ 140737488351232) (w1 : (Lit.int .i64 a1).wf = true) (w2 : (Lit.int .i64 a2).wf = true) :
    Calls Try.prog 4 #[.slice a0 len0 cap0, .int .i64 a1, .int .i64 a2] w fun e w' => e = .returned (.bool true) ∧ Below w.heap.size w w' := by
  obtain ⟨l0, rfl, hr0, hm0, hw0, hc0⟩ := ReadsInt.ofRowC w0
  obtain ⟨k, h⟩ := P l0 a1 a2 hm0 y0 hw0 w1 w2
  refine (stoalaw01_BitsUnpacks.calls k _ _ l0 a1 a2 true w (Kd.C_of_reads (d := (0 : Int)) (h1 := fun _ => rfl) hr0) hc0 h).mono ?_
  rintro e w' ⟨rfl, hd⟩
  exact ⟨rfl, hd⟩

end Go.Proofs.Ytickchfdikgniaa.PBitsUnpacks

-- written by this session's own printing program (myprint.sh)
import Derived.Test.YtimjmndogalcbaaPPackedDecodesx0
namespace Go.Proofs.Ytimjmndogalcbaa.PPackedDecodes
open Go.RowKit Go.Proofs.YtimjmndogalcbaaW.PrintWords Go.Proofs.YtimjmndogalcbaaW.PrintLast Go.Proofs.YtimjmndogalcbaaW.PrintMore
attribute [local go_sem] max2_int min2_int max_two min_two max_three min_three max_four min_four   -- for this text's walks alone
set_option linter.unusedVariables false
set_option linter.unusedSimpArgs false

/-! ### stoaref01_power: function 47 -/
def stoaref01_power.l0 : Nat → Int → Int → Int → Option (Int)
 | 0, _, _, _ => none
 | k + 1, x0, x3, x4 => if x4 < x0 then (stoaref01_power.l0 k x0 (IntKind.u64.wrap (x3 * 2)) (wrap64 (x4 + 1))) else (some x3)
def stoaref01_power.f (k : Nat) (a0 : Int) : Option (Int) := stoaref01_power.l0 k a0 1 0
theorem stoaref01_power.mono_l : ∀ k, (∀ y0 y1 y2, LeO (stoaref01_power.l0 k y0 y1 y2) (stoaref01_power.l0 (k + 1) y0 y1 y2))
 | 0 => fun _ _ _ r h => by simp [stoaref01_power.l0] at h
 | k + 1 => by
  have ih0 := stoaref01_power.mono_l k
  ·intro y0 y1 y2
   unfold stoaref01_power.l0
   repeat' first
   | (with_reducible exact ih0 _ _ _)
   | (with_reducible exact LeO.refl _)
   | (with_reducible exact LeO.none _)
   | (with_reducible refine LeO.ite ?_ ?_)
   | (with_reducible refine LeO.bind ?_ (fun _ => ?_))
   | exact ih0 _ _ _
   | exact LeO.none _
   | refine LeO.ite ?_ ?_
   | refine LeO.bind ?_ (fun _ => ?_)
theorem stoaref01_power.mono : ∀ a0 k, LeO (stoaref01_power.f k a0) (stoaref01_power.f (k + 1) a0) := by
 intro a0 k
 have ih0 := stoaref01_power.mono_l k
 unfold stoaref01_power.f
 repeat' first
   | (with_reducible exact ih0 _ _ _)
   | (with_reducible exact LeO.refl _)
   | (with_reducible exact LeO.none _)
   | (with_reducible refine LeO.ite ?_ ?_)
   | (with_reducible refine LeO.bind ?_ (fun _ => ?_))
   | exact ih0 _ _ _
   | exact LeO.none _
   | refine LeO.ite ?_ ?_
   | refine LeO.bind ?_ (fun _ => ?_)
set_option maxHeartbeats 8000000 in
set_option maxRecDepth 100000 in
theorem stoaref01_power.calls (k : Nat) (a0 : Int) (r : Int) (w : World) (h : stoaref01_power.f k a0 = some r) :
  Calls Try.prog 47 #[.int .i64 a0] w fun e w' => e = .returned (.int .u64 r) ∧ Drawn0 w w' := by
 have H : (stoaref01_power.l0 k a0 1 0) = some r := h
 clear h
 have H' := Aside0.mk H
 clear H
 go_enter Try.func47, Try.ntmps47
 go_wp2
 go_loopg [3, 4] k (fun kq v3 v4 w' => ∃ (x3_1 : Int) (x4_1 : Int), v3 = .int .u64 x3_1 ∧ v4 = .int .i64 x4_1 ∧ Aside0 (stoaref01_power.l0 kq a0 x3_1 x4_1 = some r) ∧ Aside0 (kq ≤ k) ∧ Drawn0 w w')
 case atStart => exact ⟨(1), (0), (by first | rfl | (simp; done) | (simp [*]; done)), (by first | rfl | (simp; done) | (simp [*]; done)), H', ⟨Nat.le_refl _⟩, by repeat (first | exact Drawn0.refl _ | apply Drawn0.step)⟩
 case round =>
  clear H'
  obtain ⟨x3_1, x4_1, rfl, rfl, HA, HK1, ⟨m1, rfl⟩⟩ := hrel
  cases gk with
  | zero => exact absurd HA.out (by simp [stoaref01_power.l0])
  | succ k1 =>
   have H := HA.out
   clear HA
   simp only [stoaref01_power.l0] at H
   by_cases c2 : x4_1 < a0
   ·rw [if_pos c2] at H
    have c2b0 : decide (x4_1 < a0) = true := decide_eq_true c2
    clear c2
    have H' := Aside0.mk H
    clear H
    go_wp2
    go_roundg k1
    case measure => have := HK1.out; omega
    case rel => exact ⟨(IntKind.u64.wrap (x3_1 * 2)), (wrap64 (x4_1 + 1)), (by first | rfl | (simp; done) | (simp [*]; done)), (by first | rfl | (simp; done) | (simp [*]; done)), H', ⟨by have := HK1.out; omega⟩, by repeat (first | exact Drawn0.refl _ | apply Drawn0.step)⟩
   ·rw [if_neg c2] at H
    have c2b0 : decide (x4_1 < a0) = false := decide_eq_false c2
    clear c2
    obtain rfl := Option.some.inj H
    go_wp2
    go_ret
    exact ⟨by first | rfl | (simp; done) | (simp [*]; done), by repeat (first | exact Drawn0.refl _ | apply Drawn0.step)⟩

/-! ### stoaref01_bit: function 50 -/
def stoaref01_bit.f (k : Nat) (l0 : List Int) (a1 : Int) : Option (Int) := if 0 ≤ (wrap64 (Int.tdiv a1 8)) then (if (wrap64 (Int.tdiv a1 8)) < (l0.length : Int) then ((stoaref01_power.f k (Int.tmod a1 8)).bind fun t239 => (if t239 = 0 then (none) else (some (Int.tmod (IntKind.u64.wrap (Int.tdiv (IntKind.u64.wrap (rd l0 (wrap64 (Int.tdiv a1 8)))) t239)) 2)))) else (none)) else (none)
theorem stoaref01_bit.mono : ∀ a0 a1 k, LeO (stoaref01_bit.f k a0 a1) (stoaref01_bit.f (k + 1) a0 a1) := by
 intro a0 a1 k
 unfold stoaref01_bit.f
 repeat' first
   | (with_reducible exact stoaref01_power.mono _ _)
   | (with_reducible exact LeO.refl _)
   | (with_reducible exact LeO.none _)
   | (with_reducible refine LeO.ite ?_ ?_)
   | (with_reducible refine LeO.bind ?_ (fun _ => ?_))
   | exact stoaref01_power.mono _ _
   | exact LeO.none _
   | refine LeO.ite ?_ ?_
   | refine LeO.bind ?_ (fun _ => ?_)
set_option maxHeartbeats 8000000 in
set_option maxRecDepth 100000 in
theorem stoaref01_bit.calls (k : Nat) (A0 : Option Addr) (c0 : Nat) (l0 : List Int) (a1 : Int) (r : Int) (w : World) (hr0 : Kd.C (Kd.int .u8) w A0 l0.length l0) (hc0 : l0.length ≤ c0) (h : stoaref01_bit.f k l0 a1 = some r) :
  Calls Try.prog 50 #[.slice A0 l0.length c0, .int .i64 a1] w fun e w' => e = .returned (.int .u64 r) ∧ Drawn0 w w' := by
 have HR0 := Aside0.mk hr0
 have HC0 := Aside0.mk hc0
 clear hr0 hc0
 have H : (if 0 ≤ (wrap64 (Int.tdiv a1 8)) then (if (wrap64 (Int.tdiv a1 8)) < (l0.length : Int) then ((stoaref01_power.f k (Int.tmod a1 8)).bind fun t239 => (if t239 = 0 then (none) else (some (Int.tmod (IntKind.u64.wrap (Int.tdiv (IntKind.u64.wrap (rd l0 (wrap64 (Int.tdiv a1 8)))) t239)) 2)))) else (none)) else (none)) = some r := h
 clear h
 obtain ⟨ji3, hji3⟩ : ∃ j_ : Int, (wrap64 (Int.tdiv a1 8)) = j_ := ⟨_, rfl⟩
 replace H : (if 0 ≤ (ji3) then (if (ji3) < (l0.length : Int) then ((stoaref01_power.f k (Int.tmod a1 8)).bind fun t239 => (if t239 = 0 then (none) else (some (Int.tmod (IntKind.u64.wrap (Int.tdiv (IntKind.u64.wrap (rd l0 (ji3))) t239)) 2)))) else (none)) else (none)) = some r := by first | (rw [hji3] at H; exact H) | (simp only [hji3] at H ⊢; exact H)
 have hji3w : (IntKind.i64.wrap (Int.tdiv a1 8)) = ji3 := (i64_w _).trans hji3
 by_cases c4 : 0 ≤ (ji3)
 ·rw [if_pos c4] at H
  have c4b0 : decide (0 ≤ (ji3)) = true := decide_eq_true c4
  clear c4
  by_cases c5 : (ji3) < (l0.length : Int)
  ·rw [if_pos c5] at H
   have c5b0 : decide ((ji3) < (l0.length : Int)) = true := decide_eq_true c5
   clear c5
   replace H := Option.bind_eq_some_iff.mp H
   obtain ⟨t239, A60, H⟩ := H
   replace H : (if t239 = 0 then (none) else (some (Int.tmod (IntKind.u64.wrap (Int.tdiv (IntKind.u64.wrap (rd l0 (ji3))) t239)) 2))) = some r := H
   have A6 := Aside0.mk A60
   clear A60
   by_cases c7 : t239 = 0
   ·rw [if_pos c7] at H
    exact absurd H (by simp)
   ·rw [if_neg c7] at H
    have c7b0 : (t239 == 0) = false := beq_eq_false_iff_ne.mpr c7
    have c7b1 : (t239 != 0) = true := bne_iff_ne.mpr c7
    obtain rfl := Option.some.inj H
    have p238 : 0 ≤ ((ji3) : Int) := of_decide_eq_true (by first | (with_reducible assumption) | assumption)
    have q238 : (ji3) < (l0.length : Int) := of_decide_eq_true (by first | (with_reducible assumption) | assumption)
    obtain ⟨ad238, e238, hx238_0⟩ := Kd.at_int HR0.out (ji3) p238 q238
    cases e238
    replace p238 := eq_true p238
    replace q238 := eq_true q238
    go_enter Try.func50, Try.ntmps50
    go_wp2_with (first | (go_at_call 47; (with_reducible refine (stoaref01_power.calls k (Int.tmod a1 8) t239 _ A6.out).mono ?_); rintro e w' ⟨rfl, ⟨nd, rfl⟩⟩; (try first | exact ⟨rfl, _, World.drewN_drewN _ _ _⟩ | exact ⟨rfl, _, Eq.trans (World.drewN_drewN _ _ _) (congrArg (World.drewN _) (Nat.add_assoc _ _ _))⟩)))
    repeat (go_quiet (first | (go_at_call 47; (with_reducible refine (stoaref01_power.calls k (Int.tmod a1 8) t239 _ A6.out).mono ?_); rintro e w' ⟨rfl, ⟨nd, rfl⟩⟩; (try first | exact ⟨rfl, _, World.drewN_drewN _ _ _⟩ | exact ⟨rfl, _, Eq.trans (World.drewN_drewN _ _ _) (congrArg (World.drewN _) (Nat.add_assoc _ _ _))⟩))); try go_wp2_with (first | (go_at_call 47; (with_reducible refine (stoaref01_power.calls k (Int.tmod a1 8) t239 _ A6.out).mono ?_); rintro e w' ⟨rfl, ⟨nd, rfl⟩⟩; (try first | exact ⟨rfl, _, World.drewN_drewN _ _ _⟩ | exact ⟨rfl, _, Eq.trans (World.drewN_drewN _ _ _) (congrArg (World.drewN _) (Nat.add_assoc _ _ _))⟩))))
    go_ret
    exact ⟨by first | rfl | (simp; done) | (simp only [← hji3] <;> (first | rfl | simp)) | (simp [*]; done), by repeat (first | exact Drawn0.refl _ | apply Drawn0.step)⟩
  ·rw [if_neg c5] at H
   exact absurd H (by simp)
 ·rw [if_neg c4] at H
  exact absurd H (by simp)

/-! ### stoaref01_number: function 51 -/
def stoaref01_number.l0 : Nat → List Int → Int → Int → Int → Option (Int)
 | 0, _, _, _, _ => none
 | k + 1, x0, x1, x7, x8 => if x8 ≥ 0 then ((stoaref01_bit.f k x0 (wrap64 (x1 + x8))).bind fun t240 => (stoaref01_number.l0 k x0 x1 (IntKind.u64.wrap ((IntKind.u64.wrap (x7 * 2)) + t240)) (wrap64 (x8 - 1)))) else (some x7)
def stoaref01_number.f (k : Nat) (l0 : List Int) (a1 : Int) (a2 : Int) : Option (Int) := stoaref01_number.l0 k l0 a1 0 (wrap64 (a2 - 1))
theorem stoaref01_number.mono_l : ∀ k, (∀ y0 y1 y2 y3, LeO (stoaref01_number.l0 k y0 y1 y2 y3) (stoaref01_number.l0 (k + 1) y0 y1 y2 y3))
 | 0 => fun _ _ _ _ r h => by simp [stoaref01_number.l0] at h
 | k + 1 => by
  have ih0 := stoaref01_number.mono_l k
  ·intro y0 y1 y2 y3
   unfold stoaref01_number.l0
   repeat' first
   | (with_reducible exact ih0 _ _ _ _)
   | (with_reducible exact stoaref01_bit.mono _ _ _)
   | (with_reducible exact LeO.refl _)
   | (with_reducible exact LeO.none _)
   | (with_reducible refine LeO.ite ?_ ?_)
   | (with_reducible refine LeO.bind ?_ (fun _ => ?_))
   | exact ih0 _ _ _ _
   | exact stoaref01_bit.mono _ _ _
   | exact LeO.none _
   | refine LeO.ite ?_ ?_
   | refine LeO.bind ?_ (fun _ => ?_)
theorem stoaref01_number.mono : ∀ a0 a1 a2 k, LeO (stoaref01_number.f k a0 a1 a2) (stoaref01_number.f (k + 1) a0 a1 a2) := by
 intro a0 a1 a2 k
 have ih0 := stoaref01_number.mono_l k
 unfold stoaref01_number.f
 repeat' first
   | (with_reducible exact ih0 _ _ _ _)
   | (with_reducible exact stoaref01_bit.mono _ _ _)
   | (with_reducible exact LeO.refl _)
   | (with_reducible exact LeO.none _)
   | (with_reducible refine LeO.ite ?_ ?_)
   | (with_reducible refine LeO.bind ?_ (fun _ => ?_))
   | exact ih0 _ _ _ _
   | exact stoaref01_bit.mono _ _ _
   | exact LeO.none _
   | refine LeO.ite ?_ ?_
   | refine LeO.bind ?_ (fun _ => ?_)
set_option maxHeartbeats 8000000 in
set_option maxRecDepth 100000 in
theorem stoaref01_number.calls (k : Nat) (A0 : Option Addr) (c0 : Nat) (l0 : List Int) (a1 : Int) (a2 : Int) (r : Int) (w : World) (hr0 : Kd.C (Kd.int .u8) w A0 l0.length l0) (hc0 : l0.length ≤ c0) (h : stoaref01_number.f k l0 a1 a2 = some r) :
  Calls Try.prog 51 #[.slice A0 l0.length c0, .int .i64 a1, .int .i64 a2] w fun e w' => e = .returned (.int .u64 r) ∧ Drawn0 w w' := by
 have HR0 := Aside0.mk hr0
 have HC0 := Aside0.mk hc0
 clear hr0 hc0
 have H : (stoaref01_number.l0 k l0 a1 0 (wrap64 (a2 - 1))) = some r := h
 clear h
 have H' := Aside0.mk H
 clear H
 go_enter Try.func51, Try.ntmps51
 go_wp2
 go_loopg [7, 8] k (fun kq v7 v8 w' => ∃ (x7_1 : Int) (x8_1 : Int), v7 = .int .u64 x7_1 ∧ v8 = .int .i64 x8_1 ∧ Aside0 (stoaref01_number.l0 kq l0 a1 x7_1 x8_1 = some r) ∧ Aside0 (kq ≤ k) ∧ Drawn0 w w')
 case atStart => exact ⟨(0), (wrap64 (a2 - 1)), (by first | rfl | (simp; done) | (simp [*]; done)), (by first | rfl | (simp; done) | (simp [*]; done)), H', ⟨Nat.le_refl _⟩, by repeat (first | exact Drawn0.refl _ | apply Drawn0.step)⟩
 case round =>
  clear H'
  try clear p2
  obtain ⟨x7_1, x8_1, rfl, rfl, HA, HK1, ⟨m1, rfl⟩⟩ := hrel
  cases gk with
  | zero => exact absurd HA.out (by simp [stoaref01_number.l0])
  | succ k1 =>
   have H := HA.out
   clear HA
   simp only [stoaref01_number.l0] at H
   by_cases c4 : x8_1 ≥ 0
   ·rw [if_pos c4] at H
    have c4b0 : decide (0 ≤ x8_1) = true := decide_eq_true c4
    clear c4
    replace H := Option.bind_eq_some_iff.mp H
    obtain ⟨t240, A50, H⟩ := H
    replace H : (stoaref01_number.l0 k1 l0 a1 (IntKind.u64.wrap ((IntKind.u64.wrap (x7_1 * 2)) + t240)) (wrap64 (x8_1 - 1))) = some r := H
    have A5 := Aside0.mk A50
    clear A50
    have H' := Aside0.mk H
    clear H
    go_wp2_with (first | ((with_reducible refine gate_callee (f := 50) rfl ?_); refine goesL_ (some 21) rfl rfl Try.func50 (by kernel_rfl) rfl #[.slice A0 l0.length c0, .int .i64 (wrap64 (a1 + x8_1))] rfl (by (try simp only [List.map_toArray, List.map_cons, List.map_nil]); first | done | rfl | (simp only [List.length_drop, List.length_take]; rfl)) ?_; (with_reducible refine (stoaref01_bit.calls k1 _ _ l0 (wrap64 (a1 + x8_1)) t240 _ ?side1 ?side2 A5.out).mono ?_); (case side1 => repeat (first | exact HR0.out | (with_reducible refine Kd.C_alloc ?_ _) | (with_reducible refine Kd.C_drewN ?_ _) | (with_reducible refine Kd.C_drew ?_))); (case side2 => exact HC0.out); rintro e w' ⟨rfl, ⟨nd, rfl⟩⟩; refine ⟨_, rfl, ?_⟩))
    go_roundg k1
    case measure => have := HK1.out; omega
    case rel => exact ⟨(IntKind.u64.wrap ((IntKind.u64.wrap (x7_1 * 2)) + t240)), (wrap64 (x8_1 - 1)), (by first | rfl | (simp; done) | (simp [*]; done)), (by first | rfl | (simp; done) | (simp [*]; done)), H', ⟨by have := HK1.out; omega⟩, by repeat (first | exact Drawn0.refl _ | apply Drawn0.step)⟩
   ·rw [if_neg c4] at H
    have c4b0 : decide (0 ≤ x8_1) = false := decide_eq_false c4
    clear c4
    obtain rfl := Option.some.inj H
    go_wp2
    go_ret
    exact ⟨by first | rfl | (simp; done) | (simp [*]; done), by repeat (first | exact Drawn0.refl _ | apply Drawn0.step)⟩

/-! ### stoaref01_Unpack: function 39 -/
mutual
def stoaref01_Unpack.j0 : Nat → List Int → Int → Int → Bool → Option (List Int × Int)
 | 0, _, _, _, _ => none
 | k + 1, x0, x1, x2, x24 => if x24 = true then (some (([] : List Int), 1)) else (if (wrap64 (8 * (x0.length : Int))) < (wrap64 (x1 * x2)) then (some (([] : List Int), 2)) else (if (wrap64 ((wrap64 (8 * (x0.length : Int))) - (wrap64 (x1 * x2)))) ≥ 8 then (some (([] : List Int), 3)) else (stoaref01_Unpack.l0 k x0 x1 x2 (wrap64 (x1 * x2)))))
def stoaref01_Unpack.l0 : Nat → List Int → Int → Int → Int → Option (List Int × Int)
 | 0, _, _, _, _ => none
 | k + 1, x0, x1, x2, x8 => if x8 < (wrap64 (8 * (x0.length : Int))) then ((stoaref01_bit.f k x0 x8).bind fun t241 => (if t241 = 0 then (stoaref01_Unpack.l0 k x0 x1 x2 (wrap64 (x8 + 1))) else (some (([] : List Int), 5)))) else (stoaref01_Unpack.l1 k x0 x1 x2 (([] : List Int)) 0)
def stoaref01_Unpack.l1 : Nat → List Int → Int → Int → List Int → Int → Option (List Int × Int)
 | 0, _, _, _, _, _ => none
 | k + 1, x0, x1, x2, x9, x10 => if x10 < x2 then ((stoaref01_number.f k x0 (wrap64 (x10 * x1)) x1).bind fun t245 => (if x9.length < 17592186044416 then (stoaref01_Unpack.l1 k x0 x1 x2 (x9 ++ [t245]) (wrap64 (x10 + 1))) else (none))) else (some (x9, 0))
end
def stoaref01_Unpack.f (k : Nat) (l0 : List Int) (a1 : Int) (a2 : Int) : Option (List Int × Int) := if a1 < 0 then (stoaref01_Unpack.j0 k l0 a1 a2 true) else (if a1 > 64 then (stoaref01_Unpack.j0 k l0 a1 a2 true) else (if a2 < 0 then (stoaref01_Unpack.j0 k l0 a1 a2 true) else (stoaref01_Unpack.j0 k l0 a1 a2 (decide (a2 > 4096)))))
theorem stoaref01_Unpack.mono_l : ∀ k, (∀ y0 y1 y2 y3, LeO (stoaref01_Unpack.j0 k y0 y1 y2 y3) (stoaref01_Unpack.j0 (k + 1) y0 y1 y2 y3)) ∧ (∀ y0 y1 y2 y3, LeO (stoaref01_Unpack.l0 k y0 y1 y2 y3) (stoaref01_Unpack.l0 (k + 1) y0 y1 y2 y3)) ∧ (∀ y0 y1 y2 y3 y4, LeO (stoaref01_Unpack.l1 k y0 y1 y2 y3 y4) (stoaref01_Unpack.l1 (k + 1) y0 y1 y2 y3 y4))
 | 0 => ⟨fun _ _ _ _ r h => by simp [stoaref01_Unpack.j0] at h, fun _ _ _ _ r h => by simp [stoaref01_Unpack.l0] at h, fun _ _ _ _ _ r h => by simp [stoaref01_Unpack.l1] at h⟩
 | k + 1 => by
  obtain ⟨ih0, ih1, ih2⟩ := stoaref01_Unpack.mono_l k
  refine ⟨?_, ?_, ?_⟩
  ·intro y0 y1 y2 y3
   unfold stoaref01_Unpack.j0
   repeat' first
   | (with_reducible exact ih0 _ _ _ _)
   | (with_reducible exact ih1 _ _ _ _)
   | (with_reducible exact ih2 _ _ _ _ _)
   | (with_reducible exact stoaref01_bit.mono _ _ _)
   | (with_reducible exact stoaref01_number.mono _ _ _ _)
   | (with_reducible exact LeO.refl _)
   | (with_reducible exact LeO.none _)
   | (with_reducible refine LeO.ite ?_ ?_)
   | (with_reducible refine LeO.bind ?_ (fun _ => ?_))
   | exact ih0 _ _ _ _
   | exact ih1 _ _ _ _
   | exact ih2 _ _ _ _ _
   | exact stoaref01_bit.mono _ _ _
   | exact stoaref01_number.mono _ _ _ _
   | exact LeO.none _
   | refine LeO.ite ?_ ?_
   | refine LeO.bind ?_ (fun _ => ?_)
  ·intro y0 y1 y2 y3
   unfold stoaref01_Unpack.l0
   repeat' first
   | (with_reducible exact ih0 _ _ _ _)
   | (with_reducible exact ih1 _ _ _ _)
   | (with_reducible exact ih2 _ _ _ _ _)
   | (with_reducible exact stoaref01_bit.mono _ _ _)
   | (with_reducible exact stoaref01_number.mono _ _ _ _)
   | (with_reducible exact LeO.refl _)
   | (with_reducible exact LeO.none _)
   | (with_reducible refine LeO.ite ?_ ?_)
   | (with_reducible refine LeO.bind ?_ (fun _ => ?_))
   | exact ih0 _ _ _ _
   | exact ih1 _ _ _ _
   | exact ih2 _ _ _ _ _
   | exact stoaref01_bit.mono _ _ _
   | exact stoaref01_number.mono _ _ _ _
   | exact LeO.none _
   | refine LeO.ite ?_ ?_
   | refine LeO.bind ?_ (fun _ => ?_)
  ·intro y0 y1 y2 y3 y4
   unfold stoaref01_Unpack.l1
   repeat' first
   | (with_reducible exact ih0 _ _ _ _)
   | (with_reducible exact ih1 _ _ _ _)
   | (with_reducible exact ih2 _ _ _ _ _)
   | (with_reducible exact stoaref01_bit.mono _ _ _)
   | (with_reducible exact stoaref01_number.mono _ _ _ _)
   | (with_reducible exact LeO.refl _)
   | (with_reducible exact LeO.none _)
   | (with_reducible refine LeO.ite ?_ ?_)
   | (with_reducible refine LeO.bind ?_ (fun _ => ?_))
   | exact ih0 _ _ _ _
   | exact ih1 _ _ _ _
   | exact ih2 _ _ _ _ _
   | exact stoaref01_bit.mono _ _ _
   | exact stoaref01_number.mono _ _ _ _
   | exact LeO.none _
   | refine LeO.ite ?_ ?_
   | refine LeO.bind ?_ (fun _ => ?_)
theorem stoaref01_Unpack.mono : ∀ a0 a1 a2 k, LeO (stoaref01_Unpack.f k a0 a1 a2) (stoaref01_Unpack.f (k + 1) a0 a1 a2) := by
 intro a0 a1 a2 k
 obtain ⟨ih0, ih1, ih2⟩ := stoaref01_Unpack.mono_l k
 unfold stoaref01_Unpack.f
 repeat' first
   | (with_reducible exact ih0 _ _ _ _)
   | (with_reducible exact ih1 _ _ _ _)
   | (with_reducible exact ih2 _ _ _ _ _)
   | (with_reducible exact stoaref01_bit.mono _ _ _)
   | (with_reducible exact stoaref01_number.mono _ _ _ _)
   | (with_reducible exact LeO.refl _)
   | (with_reducible exact LeO.none _)
   | (with_reducible refine LeO.ite ?_ ?_)
   | (with_reducible refine LeO.bind ?_ (fun _ => ?_))
   | exact ih0 _ _ _ _
   | exact ih1 _ _ _ _
   | exact ih2 _ _ _ _ _
   | exact stoaref01_bit.mono _ _ _
   | exact stoaref01_number.mono _ _ _ _
   | exact LeO.none _
   | refine LeO.ite ?_ ?_
   | refine LeO.bind ?_ (fun _ => ?_)
set_option maxHeartbeats 8000000 in
set_option maxRecDepth 100000 in
theorem stoaref01_Unpack.calls (k : Nat) (A0 : Option Addr) (c0 : Nat) (l0 : List Int) (a1 : Int) (a2 : Int) (r1 : List Int) (r2 : Int) (w : World) (hr0 : Kd.C (Kd.int .u8) w A0 l0.length l0) (hc0 : l0.length ≤ c0) (h : stoaref01_Unpack.f k l0 a1 a2 = some (r1, r2)) :
  Calls Try.prog 39 #[.slice A0 l0.length c0, .int .i64 a1, .int .i64 a2] w fun e w' => ∃ v0_ : Value, e = .returned (.tuple #[v0_, .int .i64 r2]) ∧ Kd.R (Kd.int .u64) 46 w' w.heap.size (fun _ => True) v0_ r1 ∧ Below w.heap.size w w' := by
 have HR0 := Aside0.mk hr0
 have HC0 := Aside0.mk hc0
 clear hr0 hc0
 have HB := Aside0.mk (Below.refl w.heap.size w)
 have H : (if a1 < 0 then (stoaref01_Unpack.j0 k l0 a1 a2 true) else (if a1 > 64 then (stoaref01_Unpack.j0 k l0 a1 a2 true) else (if a2 < 0 then (stoaref01_Unpack.j0 k l0 a1 a2 true) else (stoaref01_Unpack.j0 k l0 a1 a2 (decide (a2 > 4096)))))) = some (r1, r2) := h
 clear h
 have HC4 := Aside0.mk H
 clear H
 go_enter Try.func39, Try.ntmps39
 go_upto_region 1 with (fail)
 go_cut [24] (fun v24 wc => ∃ (kq : Nat) (x24_3 : Bool), v24 = .bool x24_3 ∧ Aside0 (stoaref01_Unpack.j0 kq l0 a1 a2 x24_3 = some (r1, r2)) ∧ Aside0 (kq ≤ k) ∧ Aside0 (Below w.heap.size w wc))
 case first =>
  have H := HC4.out
  clear HC4
  by_cases c5 : a1 < 0
  ·rw [if_pos c5] at H
   have c5b0 : decide (a1 < 0) = true := decide_eq_true c5
   clear c5
   (first | rw [c5b0] | (simp only [i64_w, i32_w]; rw [c5b0]) | skip)
   have H' := Aside0.mk H
   clear H
   go_wp2
   go_meet
   case rel => exact ⟨_, (true), (by first | rfl | (simp; done) | (simp [*]; done)), H', ⟨by first | omega | exact Nat.le_refl _⟩, ⟨by repeat (first | (with_reducible first | exact HB.out | apply below_alloc | apply pw_below_drewN | apply below_drew1) | exact HB.out)⟩⟩
  ·rw [if_neg c5] at H
   have c5b0 : decide (a1 < 0) = false := decide_eq_false c5
   clear c5
   (first | rw [c5b0] | (simp only [i64_w, i32_w]; rw [c5b0]) | skip)
   by_cases c6 : a1 > 64
   ·rw [if_pos c6] at H
    have c6b0 : decide (64 < a1) = true := decide_eq_true c6
    clear c6
    have H' := Aside0.mk H
    clear H
    go_wp2
    go_meet
    case rel => exact ⟨_, (true), (by first | rfl | (simp; done) | (simp [*]; done)), H', ⟨by first | omega | exact Nat.le_refl _⟩, ⟨by repeat (first | (with_reducible first | exact HB.out | apply below_alloc | apply pw_below_drewN | apply below_drew1) | exact HB.out)⟩⟩
   ·rw [if_neg c6] at H
    have c6b0 : decide (64 < a1) = false := decide_eq_false c6
    clear c6
    by_cases c7 : a2 < 0
    ·rw [if_pos c7] at H
     have c7b0 : decide (a2 < 0) = true := decide_eq_true c7
     clear c7
     have H' := Aside0.mk H
     clear H
     go_wp2
     go_meet
     case rel => exact ⟨_, (true), (by first | rfl | (simp; done) | (simp [*]; done)), H', ⟨by first | omega | exact Nat.le_refl _⟩, ⟨by repeat (first | (with_reducible first | exact HB.out | apply below_alloc | apply pw_below_drewN | apply below_drew1) | exact HB.out)⟩⟩
    ·rw [if_neg c7] at H
     have c7b0 : decide (a2 < 0) = false := decide_eq_false c7
     clear c7
     have H' := Aside0.mk H
     clear H
     go_wp2
     go_meet
     case rel => exact ⟨_, (decide (a2 > 4096)), (by first | rfl | (simp; done) | (simp [*]; done)), H', ⟨by first | omega | exact Nat.le_refl _⟩, ⟨by repeat (first | (with_reducible first | exact HB.out | apply below_alloc | apply pw_below_drewN | apply below_drew1) | exact HB.out)⟩⟩
 case rest =>
  clear HC4
  try clear p2
  try clear c3
  try clear c5
  try clear c5b0
  try clear c6
  try clear c6b0
  try clear c7
  try clear c7b0
  obtain ⟨kq, x24_3, rfl, HA, HJ3, HB⟩ := hcut
  cases kq with
  | zero => exact absurd HA.out (by simp [stoaref01_Unpack.j0])
  | succ kj3 =>
   have H := HA.out
   clear HA
   simp only [stoaref01_Unpack.j0] at H
   by_cases c8 : x24_3 = true
   ·subst c8
    have H1 : (some (([] : List Int), 1)) = some (r1, r2) := by rw [if_pos rfl] at H; exact H
    clear H
    have H := H1
    clear H1
    simp only [Option.some.injEq, Prod.mk.injEq] at H
    obtain ⟨rfl, rfl⟩ := H
    go_wp2
    go_ret2
    exact ⟨_, by first | rfl | (simp [errW_none, errW_some] <;> rfl) | (simp [*, errW_none, errW_some] <;> rfl), by first | exact Kd.R_nil _ _ _ _ _ | exact Kd.N_nil _ _ _ _ _ | exact Kd.V_nil _ _ _ _ _ | exact Kd.Q_nil _ _ _ _ _ | exact Kd.S_nil _ _ _ _ _, by repeat (first | (with_reducible first | exact HB.out | apply below_alloc | apply pw_below_drewN | apply below_drew1) | exact HB.out)⟩
   ·replace c8 := Bool.eq_false_iff.mpr c8
    subst c8
    have H1 : (if (wrap64 (8 * (l0.length : Int))) < (wrap64 (a1 * a2)) then (some (([] : List Int), 2)) else (if (wrap64 ((wrap64 (8 * (l0.length : Int))) - (wrap64 (a1 * a2)))) ≥ 8 then (some (([] : List Int), 3)) else (stoaref01_Unpack.l0 kj3 l0 a1 a2 (wrap64 (a1 * a2))))) = some (r1, r2) := by rw [if_neg (show ¬ (false = true) by decide)] at H; exact H
    clear H
    have H := H1
    clear H1
    by_cases c9 : (wrap64 (8 * (l0.length : Int))) < (wrap64 (a1 * a2))
    ·rw [if_pos c9] at H
     have c9b0 : decide ((wrap64 (8 * (l0.length : Int))) < (wrap64 (a1 * a2))) = true := decide_eq_true c9
     clear c9
     simp only [Option.some.injEq, Prod.mk.injEq] at H
     obtain ⟨rfl, rfl⟩ := H
     go_wp2
     go_ret2
     exact ⟨_, by first | rfl | (simp [errW_none, errW_some] <;> rfl) | (simp [*, errW_none, errW_some] <;> rfl), by first | exact Kd.R_nil _ _ _ _ _ | exact Kd.N_nil _ _ _ _ _ | exact Kd.V_nil _ _ _ _ _ | exact Kd.Q_nil _ _ _ _ _ | exact Kd.S_nil _ _ _ _ _, by repeat (first | (with_reducible first | exact HB.out | apply below_alloc | apply pw_below_drewN | apply below_drew1) | exact HB.out)⟩
    ·rw [if_neg c9] at H
     have c9b0 : decide ((wrap64 (8 * (l0.length : Int))) < (wrap64 (a1 * a2))) = false := decide_eq_false c9
     clear c9
     by_cases c10 : (wrap64 ((wrap64 (8 * (l0.length : Int))) - (wrap64 (a1 * a2)))) ≥ 8
     ·rw [if_pos c10] at H
      have c10b0 : decide (8 ≤ (wrap64 ((wrap64 (8 * (l0.length : Int))) - (wrap64 (a1 * a2))))) = true := decide_eq_true c10
      clear c10
      simp only [Option.some.injEq, Prod.mk.injEq] at H
      obtain ⟨rfl, rfl⟩ := H
      go_wp2
      go_ret2
      exact ⟨_, by first | rfl | (simp [errW_none, errW_some] <;> rfl) | (simp [*, errW_none, errW_some] <;> rfl), by first | exact Kd.R_nil _ _ _ _ _ | exact Kd.N_nil _ _ _ _ _ | exact Kd.V_nil _ _ _ _ _ | exact Kd.Q_nil _ _ _ _ _ | exact Kd.S_nil _ _ _ _ _, by repeat (first | (with_reducible first | exact HB.out | apply below_alloc | apply pw_below_drewN | apply below_drew1) | exact HB.out)⟩
     ·rw [if_neg c10] at H
      have c10b0 : decide (8 ≤ (wrap64 ((wrap64 (8 * (l0.length : Int))) - (wrap64 (a1 * a2))))) = false := decide_eq_false c10
      clear c10
      have H' := Aside0.mk H
      clear H
      go_wp2
      go_loopg [8] kj3 (fun kq v8 w' => ∃ (x8_2 : Int), v8 = .int .i64 x8_2 ∧ Aside0 (stoaref01_Unpack.l0 kq l0 a1 a2 x8_2 = some (r1, r2)) ∧ Aside0 (kq ≤ kj3) ∧ Aside0 (Below w.heap.size w w'))
      case atStart => exact ⟨(wrap64 (a1 * a2)), (by first | rfl | (simp; done) | (simp [*]; done)), H', ⟨Nat.le_refl _⟩, ⟨by repeat (first | (with_reducible first | exact HB.out | apply below_alloc | apply pw_below_drewN | apply below_drew1) | exact HB.out)⟩⟩
      case round =>
       clear H'
       try clear c1
       try clear p2
       try clear c3
       try clear c5
       try clear c5b0
       try clear c6
       try clear c6b0
       try clear p6
       try clear c7
       try clear c7b0
       try clear c8
       try clear c9
       try clear c9b0
       try clear c10
       try clear c10b0
       try clear p2
       obtain ⟨x8_2, rfl, HA, HK2, HB⟩ := hrel
       cases gk with
       | zero => exact absurd HA.out (by simp [stoaref01_Unpack.l0])
       | succ k2 =>
        have H := HA.out
        clear HA
        simp only [stoaref01_Unpack.l0] at H
        by_cases c11 : x8_2 < (wrap64 (8 * (l0.length : Int)))
        ·rw [if_pos c11] at H
         have c11b0 : decide (x8_2 < (wrap64 (8 * (l0.length : Int)))) = true := decide_eq_true c11
         clear c11
         replace H := Option.bind_eq_some_iff.mp H
         obtain ⟨t241, A120, H⟩ := H
         replace H : (if t241 = 0 then (stoaref01_Unpack.l0 k2 l0 a1 a2 (wrap64 (x8_2 + 1))) else (some (([] : List Int), 5))) = some (r1, r2) := H
         have A12 := Aside0.mk A120
         clear A120
         by_cases c13 : t241 = 0
         ·rw [if_pos c13] at H
          have c13b0 : (t241 == 0) = true := beq_iff_eq.mpr c13
          have c13b1 : (t241 != 0) = false := bne_eq_false_iff_eq.mpr c13
          clear c13
          have H' := Aside0.mk H
          clear H
          go_wp2_with (first | ((with_reducible refine gate_callee (f := 50) rfl ?_); refine goesL_ (some 52) rfl rfl Try.func50 (by kernel_rfl) rfl #[.slice A0 l0.length c0, .int .i64 x8_2] rfl (by (try simp only [List.map_toArray, List.map_cons, List.map_nil]); first | done | rfl | (simp only [List.length_drop, List.length_take]; rfl)) ?_; (with_reducible refine (stoaref01_bit.calls k2 _ _ l0 x8_2 t241 _ ?side1 ?side2 A12.out).mono ?_); (case side1 => repeat (first | exact (Kd.C_below HR0.out HB.out) | (with_reducible refine Kd.C_alloc ?_ _) | (with_reducible refine Kd.C_drewN ?_ _) | (with_reducible refine Kd.C_drew ?_))); (case side2 => exact HC0.out); rintro e w' ⟨rfl, ⟨nd, rfl⟩⟩; refine ⟨_, rfl, ?_⟩))
          go_roundg k2
          case measure => have := HJ3.out; have := HK2.out; omega
          case rel => exact ⟨(wrap64 (x8_2 + 1)), (by first | rfl | (simp; done) | (simp [*]; done)), H', ⟨by have := HJ3.out; have := HK2.out; omega⟩, ⟨by repeat (first | (with_reducible first | exact HB.out | apply below_alloc | apply pw_below_drewN | apply below_drew1) | exact HB.out)⟩⟩
         ·rw [if_neg c13] at H
          have c13b0 : (t241 == 0) = false := beq_eq_false_iff_ne.mpr c13
          have c13b1 : (t241 != 0) = true := bne_iff_ne.mpr c13
          simp only [Option.some.injEq, Prod.mk.injEq] at H
          obtain ⟨rfl, rfl⟩ := H
          go_wp2_with (first | ((with_reducible refine gate_callee (f := 50) rfl ?_); refine goesL_ (some 52) rfl rfl Try.func50 (by kernel_rfl) rfl #[.slice A0 l0.length c0, .int .i64 x8_2] rfl (by (try simp only [List.map_toArray, List.map_cons, List.map_nil]); first | done | rfl | (simp only [List.length_drop, List.length_take]; rfl)) ?_; (with_reducible refine (stoaref01_bit.calls k2 _ _ l0 x8_2 t241 _ ?side1 ?side2 A12.out).mono ?_); (case side1 => repeat (first | exact (Kd.C_below HR0.out HB.out) | (with_reducible refine Kd.C_alloc ?_ _) | (with_reducible refine Kd.C_drewN ?_ _) | (with_reducible refine Kd.C_drew ?_))); (case side2 => exact HC0.out); rintro e w' ⟨rfl, ⟨nd, rfl⟩⟩; refine ⟨_, rfl, ?_⟩))
          go_ret2
          exact ⟨_, by first | rfl | (simp [errW_none, errW_some] <;> rfl) | (simp [*, errW_none, errW_some] <;> rfl), by first | exact Kd.R_nil _ _ _ _ _ | exact Kd.N_nil _ _ _ _ _ | exact Kd.V_nil _ _ _ _ _ | exact Kd.Q_nil _ _ _ _ _ | exact Kd.S_nil _ _ _ _ _, by repeat (first | (with_reducible first | exact HB.out | apply below_alloc | apply pw_below_drewN | apply below_drew1) | exact HB.out)⟩
        ·rw [if_neg c11] at H
         have c11b0 : decide (x8_2 < (wrap64 (8 * (l0.length : Int)))) = false := decide_eq_false c11
         clear c11
         obtain ⟨y242, hy242⟩ : ∃ y_ : List Int, y_ = (([] : List Int)) := ⟨_, rfl⟩
         replace H : (stoaref01_Unpack.l1 k2 l0 a1 a2 y242 0) = some (r1, r2) := by first | (rw [hy242]; with_reducible exact H) | (have H2_ := (Option.bind_some _ _).symm.trans H; rw [hy242]; with_reducible exact H2_) | (have H2_ := (Option.bind_some _ _).symm.trans H; with_reducible exact H2_) | with_reducible exact H | (rw [hy242]; exact H) | exact H
         have Ny242 := Aside0.mk hy242
         clear hy242
         have H' := Aside0.mk H
         clear H
         go_wp2_with (first | ((with_reducible refine gate_dst (N := 54) rfl ?_); refine Kd.R_lit (Kd.int .u64) _ 46 ?hg (N := 54) ?hd (xs := ([] : List Int)) (inner := []) (ok := fun _ => True) (okp := fun _ => True) ?hr ?hp (fun _ hk => hk) trivial (Below.refl _ _) (Nat.le_refl _) (by simp) ?_; (case hd => rfl); (case hg => rfl); (case hr => first | (go_simp; done) | (go_simp; rfl)); (case hp => exact (Reps.none _ _)); intro v243 w14 ho15 hb hg_ hnew_; clear hg_ hnew_; (first | rw [← Ny242.out] at ho15 | (simp only [Int.reduceToNat] at ho15; rw [← Ny242.out] at ho15)); have n0_ := Aside0.mk (Kd.R_lower ho15 (below_size (by repeat (first | (with_reducible first | exact HB.out | apply below_alloc | apply pw_below_drewN | apply below_drew1) | exact HB.out)))); have n1_ := Aside0.mk (below_step (by repeat (first | (with_reducible first | exact HB.out | apply below_alloc | apply pw_below_drewN | apply below_drew1) | exact HB.out)) hb); clear HB; have HO244 := n0_; have HB := n1_; clear n0_ n1_; clear hb ho15))
         go_loopg [9, 10] k2 (fun kq v9 v10 w' => ∃ (x9_3 : List Int) (x10_3 : Int), v10 = .int .i64 x10_3 ∧ Aside0 (stoaref01_Unpack.l1 kq l0 a1 a2 x9_3 x10_3 = some (r1, r2)) ∧ Aside0 (kq ≤ k2) ∧ Aside0 (Kd.R (Kd.int .u64) 46 w' w.heap.size (fun _ => True) v9 x9_3) ∧ Aside0 (Below w.heap.size w w'))
         case atStart => exact ⟨(y242), (0), (by first | rfl | (simp; done) | (simp [*]; done)), H', ⟨Nat.le_refl _⟩, ⟨by (with_reducible repeat (first | apply Kd.R_alloc | apply Kd.R_drewN | apply Kd.R_drew)); exact HO244.out⟩, ⟨by repeat (first | (with_reducible first | exact HB.out | apply below_alloc | apply pw_below_drewN | apply below_drew1) | exact HB.out)⟩⟩
         case round =>
          clear H'
          try clear c1
          try clear p2
          try clear c3
          try clear c5
          try clear c5b0
          try clear c6
          try clear c6b0
          try clear p6
          try clear c7
          try clear c7b0
          try clear c8
          try clear c9
          try clear c9b0
          try clear c10
          try clear c10b0
          try clear c11
          try clear c11b0
          try clear c13
          try clear c13b0
          try clear c13b1
          try clear p2
          try clear p6
          obtain ⟨x9_3, x10_3, rfl, HA, HK3, HO_9, HB⟩ := hrel
          cases gk with
          | zero => exact absurd HA.out (by simp [stoaref01_Unpack.l1])
          | succ k3 =>
           have H := HA.out
           clear HA
           simp only [stoaref01_Unpack.l1] at H
           by_cases c16 : x10_3 < a2
           ·rw [if_pos c16] at H
            have c16b0 : decide (x10_3 < a2) = true := decide_eq_true c16
            clear c16
            replace H := Option.bind_eq_some_iff.mp H
            obtain ⟨t245, A170, H⟩ := H
            replace H : (if x9_3.length < 17592186044416 then (stoaref01_Unpack.l1 k3 l0 a1 a2 (x9_3 ++ [t245]) (wrap64 (x10_3 + 1))) else (none)) = some (r1, r2) := H
            have A17 := Aside0.mk A170
            clear A170
            by_cases c18 : x9_3.length < 17592186044416
            ·rw [if_pos c18] at H
             have LMc18 := Aside0.mk c18
             clear c18
             obtain ⟨y246, hy246⟩ : ∃ y_ : List Int, y_ = (x9_3 ++ [t245]) := ⟨_, rfl⟩
             replace H : (stoaref01_Unpack.l1 k3 l0 a1 a2 y246 (wrap64 (x10_3 + 1))) = some (r1, r2) := by first | (rw [hy246]; with_reducible exact H) | (have H2_ := (Option.bind_some _ _).symm.trans H; rw [hy246]; with_reducible exact H2_) | (have H2_ := (Option.bind_some _ _).symm.trans H; with_reducible exact H2_) | with_reducible exact H | (rw [hy246]; exact H) | exact H
             have Ny246 := Aside0.mk hy246
             clear hy246
             have H' := Aside0.mk H
             clear H
             go_wp2_with (first | ((with_reducible refine gate_callee (f := 51) rfl ?_); refine goesL_ (some 66) rfl rfl Try.func51 (by kernel_rfl) rfl #[.slice A0 l0.length c0, .int .i64 (wrap64 (x10_3 * a1)), .int .i64 a1] rfl (by (try simp only [List.map_toArray, List.map_cons, List.map_nil]); first | done | rfl | (simp only [List.length_drop, List.length_take]; rfl)) ?_; (with_reducible refine (stoaref01_number.calls k3 _ _ l0 (wrap64 (x10_3 * a1)) a1 t245 _ ?side1 ?side2 A17.out).mono ?_); (case side1 => repeat (first | exact (Kd.C_below HR0.out HB.out) | (with_reducible refine Kd.C_alloc ?_ _) | (with_reducible refine Kd.C_drewN ?_ _) | (with_reducible refine Kd.C_drew ?_))); (case side2 => exact HC0.out); rintro e w' ⟨rfl, ⟨nd, rfl⟩⟩; refine ⟨_, rfl, ?_⟩) | ((with_reducible refine gate_builtin (b := .append) (xs := #[.tmp 60, .tmp 67]) rfl ?_); at_builtin; refine Kd.R_append (Kd.int .u64) (w0 := w) w.heap.size rfl (.tmp 60) (.tmp 67) 50 46 (.int .u64 0) 8 rfl Try.underlying50 info46 rfl (by decide) (by omega) u9 x9_3 t245 [.int .u64 t245] (fun _ => True) (fun _ => False) rfl rfl ?aP (fun _ hk => hk.elim) ?aF ?aO ?aB ?aS ?aL ?_; (case aP => exact rfl); (case aB => exact (by repeat (first | (with_reducible first | exact HB.out | apply below_alloc | apply pw_below_drewN | apply below_drew1) | exact HB.out))); (case aF => exact (fun _ _ => trivial)); (case aO => exact (by (with_reducible repeat (first | apply Kd.R_alloc | apply Kd.R_drewN | apply Kd.R_drew)); exact HO_9.out)); (case aS => exact (below_size (by repeat (first | (with_reducible first | exact HB.out | apply below_alloc | apply pw_below_drewN | apply below_drew1) | exact HB.out)))); (case aL => have := LMc18.out; omega); intro v247 w19 ho hb hg hat; rw [← Ny246.out] at ho; have n0_ := Aside0.mk (hb); have n1_ := Aside0.mk (ho); clear HB; clear HO_9; have HB := n0_; have HO248 := n1_; clear n0_ n1_; clear ho hb hg hat))
             go_roundg k3
             case measure => have := HJ3.out; have := HK2.out; have := HK3.out; omega
             case rel => exact ⟨(y246), (wrap64 (x10_3 + 1)), (by first | rfl | (simp; done) | (simp [*]; done)), H', ⟨by have := HJ3.out; have := HK2.out; have := HK3.out; omega⟩, ⟨by (with_reducible repeat (first | apply Kd.R_alloc | apply Kd.R_drewN | apply Kd.R_drew)); exact HO248.out⟩, ⟨by repeat (first | (with_reducible first | exact HB.out | apply below_alloc | apply pw_below_drewN | apply below_drew1) | exact HB.out)⟩⟩
            ·rw [if_neg c18] at H
             exact absurd H (by simp)
           ·rw [if_neg c16] at H
            have c16b0 : decide (x10_3 < a2) = false := decide_eq_false c16
            clear c16
            simp only [Option.some.injEq, Prod.mk.injEq] at H
            obtain ⟨rfl, rfl⟩ := H
            go_wp2
            go_ret2
            exact ⟨_, by first | rfl | (simp [errW_none, errW_some] <;> rfl) | (simp [*, errW_none, errW_some] <;> rfl), by (with_reducible repeat (first | apply Kd.R_alloc | apply Kd.R_drewN | apply Kd.R_drew)); exact HO_9.out, by repeat (first | (with_reducible first | exact HB.out | apply below_alloc | apply pw_below_drewN | apply below_drew1) | exact HB.out)⟩

/-! ### stoaref01_Piece: function 40 -/
mutual
def stoaref01_Piece.j0 : Nat → List Int → Int → Int → List Int → Option (List Int)
 | 0, _, _, _, _ => none
 | k + 1, x0, x1, x2, x7 => stoaref01_Piece.l0 k x0 x2 x7 x1
def stoaref01_Piece.l0 : Nat → List Int → Int → List Int → Int → Option (List Int)
 | 0, _, _, _, _ => none
 | k + 1, x0, x2, x7, x8 => if x8 < (x0.length : Int) then (if x8 < x2 then (if 0 ≤ x8 then (if x7.length < 140737488355328 then (stoaref01_Piece.l0 k x0 x2 (x7 ++ [rd x0 x8]) (wrap64 (x8 + 1))) else (none)) else (none)) else (some x7)) else (some x7)
end
def stoaref01_Piece.f (k : Nat) (l0 : List Int) (a1 : Int) (a2 : Int) : Option (List Int) := (some (([] : List Int) : List Int)).bind fun y249 => (if a1 < 0 then (stoaref01_Piece.j0 k l0 0 a2 y249) else (stoaref01_Piece.j0 k l0 a1 a2 y249))
theorem stoaref01_Piece.mono_l : ∀ k, (∀ y0 y1 y2 y3, LeO (stoaref01_Piece.j0 k y0 y1 y2 y3) (stoaref01_Piece.j0 (k + 1) y0 y1 y2 y3)) ∧ (∀ y0 y1 y2 y3, LeO (stoaref01_Piece.l0 k y0 y1 y2 y3) (stoaref01_Piece.l0 (k + 1) y0 y1 y2 y3))
 | 0 => ⟨fun _ _ _ _ r h => by simp [stoaref01_Piece.j0] at h, fun _ _ _ _ r h => by simp [stoaref01_Piece.l0] at h⟩
 | k + 1 => by
  obtain ⟨ih0, ih1⟩ := stoaref01_Piece.mono_l k
  refine ⟨?_, ?_⟩
  ·intro y0 y1 y2 y3
   unfold stoaref01_Piece.j0
   repeat' first
   | (with_reducible exact ih0 _ _ _ _)
   | (with_reducible exact ih1 _ _ _ _)
   | (with_reducible exact LeO.refl _)
   | (with_reducible exact LeO.none _)
   | (with_reducible refine LeO.ite ?_ ?_)
   | (with_reducible refine LeO.bind ?_ (fun _ => ?_))
   | exact ih0 _ _ _ _
   | exact ih1 _ _ _ _
   | exact LeO.none _
   | refine LeO.ite ?_ ?_
   | refine LeO.bind ?_ (fun _ => ?_)
  ·intro y0 y1 y2 y3
   unfold stoaref01_Piece.l0
   repeat' first
   | (with_reducible exact ih0 _ _ _ _)
   | (with_reducible exact ih1 _ _ _ _)
   | (with_reducible exact LeO.refl _)
   | (with_reducible exact LeO.none _)
   | (with_reducible refine LeO.ite ?_ ?_)
   | (with_reducible refine LeO.bind ?_ (fun _ => ?_))
   | exact ih0 _ _ _ _
   | exact ih1 _ _ _ _
   | exact LeO.none _
   | refine LeO.ite ?_ ?_
   | refine LeO.bind ?_ (fun _ => ?_)
theorem stoaref01_Piece.mono : ∀ a0 a1 a2 k, LeO (stoaref01_Piece.f k a0 a1 a2) (stoaref01_Piece.f (k + 1) a0 a1 a2) := by
 intro a0 a1 a2 k
 obtain ⟨ih0, ih1⟩ := stoaref01_Piece.mono_l k
 unfold stoaref01_Piece.f
 repeat' first
   | (with_reducible exact ih0 _ _ _ _)
   | (with_reducible exact ih1 _ _ _ _)
   | (with_reducible exact LeO.refl _)
   | (with_reducible exact LeO.none _)
   | (with_reducible refine LeO.ite ?_ ?_)
   | (with_reducible refine LeO.bind ?_ (fun _ => ?_))
   | exact ih0 _ _ _ _
   | exact ih1 _ _ _ _
   | exact LeO.none _
   | refine LeO.ite ?_ ?_
   | refine LeO.bind ?_ (fun _ => ?_)
set_option maxHeartbeats 8000000 in
set_option maxRecDepth 100000 in
theorem stoaref01_Piece.calls (k : Nat) (A0 : Option Addr) (c0 : Nat) (l0 : List Int) (a1 : Int) (a2 : Int) (r : List Int) (w : World) (hr0 : Kd.C (Kd.int .u8) w A0 l0.length l0) (hc0 : l0.length ≤ c0) (h : stoaref01_Piece.f k l0 a1 a2 = some r) :
  Calls Try.prog 40 #[.slice A0 l0.length c0, .int .i64 a1, .int .i64 a2] w fun e w' => ∃ v0_ : Value, e = .returned (v0_) ∧ Kd.R (Kd.int .u8) 5 w' w.heap.size (fun _ => True) v0_ r ∧ Below w.heap.size w w' := by
 have HR0 := Aside0.mk hr0
 have HC0 := Aside0.mk hc0
 clear hr0 hc0
 have HB := Aside0.mk (Below.refl w.heap.size w)
 have H : ((some (([] : List Int) : List Int)).bind fun y249 => (if a1 < 0 then (stoaref01_Piece.j0 k l0 0 a2 y249) else (stoaref01_Piece.j0 k l0 a1 a2 y249))) = some r := h
 clear h
 obtain ⟨y249, hy249⟩ : ∃ y_ : List Int, y_ = (([] : List Int)) := ⟨_, rfl⟩
 replace H : (if a1 < 0 then (stoaref01_Piece.j0 k l0 0 a2 y249) else (stoaref01_Piece.j0 k l0 a1 a2 y249)) = some r := by first | (rw [hy249]; with_reducible exact H) | (have H2_ := (Option.bind_some _ _).symm.trans H; rw [hy249]; with_reducible exact H2_) | (have H2_ := (Option.bind_some _ _).symm.trans H; with_reducible exact H2_) | with_reducible exact H | (rw [hy249]; exact H) | exact H
 have Ny249 := Aside0.mk hy249
 clear hy249
 have HC4 := Aside0.mk H
 clear H
 go_enter Try.func40, Try.ntmps40
 go_upto_if 11 with (first | ((with_reducible refine gate_dst (N := 9) rfl ?_); refine Kd.R_lit (Kd.int .u8) _ 5 ?hg (N := 9) ?hd (xs := ([] : List Int)) (inner := []) (ok := fun _ => True) (okp := fun _ => True) ?hr ?hp (fun _ hk => hk) trivial (Below.refl _ _) (Nat.le_refl _) (by simp) ?_; (case hd => rfl); (case hg => rfl); (case hr => first | (go_simp; done) | (go_simp; rfl)); (case hp => exact (Reps.none _ _)); intro v250 w5 ho6 hb hg_ hnew_; clear hg_ hnew_; (first | rw [← Ny249.out] at ho6 | (simp only [Int.reduceToNat] at ho6; rw [← Ny249.out] at ho6)); have n0_ := Aside0.mk (Kd.R_lower ho6 (below_size (by repeat (first | (with_reducible first | exact HB.out | apply below_alloc | apply pw_below_drewN | apply below_drew1) | exact HB.out)))); have n1_ := Aside0.mk (below_step (by repeat (first | (with_reducible first | exact HB.out | apply below_alloc | apply pw_below_drewN | apply below_drew1) | exact HB.out)) hb); clear HB; have HO251 := n0_; have HB := n1_; clear n0_ n1_; clear hb ho6))
 (try simp only [Act.put, List.setIfInBounds_toArray, List.set_cons_zero, List.set_cons_succ])
 go_cut [1] (fun v1 wc => ∃ (kq : Nat) (x1_3 : Int), v1 = .int .i64 x1_3 ∧ Aside0 (stoaref01_Piece.j0 kq l0 x1_3 a2 y249 = some r) ∧ Aside0 (kq ≤ k) ∧ Aside0 (Kd.R (Kd.int .u8) 5 wc w.heap.size (fun _ => True) v250 y249) ∧ Aside0 (Below w.heap.size w wc))
 case first =>
  have H := HC4.out
  clear HC4
  by_cases c7 : a1 < 0
  ·rw [if_pos c7] at H
   have c7b0 : decide (a1 < 0) = true := decide_eq_true c7
   clear c7
   (first | rw [c7b0] | (simp only [i64_w, i32_w]; rw [c7b0]) | skip)
   have H' := Aside0.mk H
   clear H
   go_wp2
   go_meet
   case rel => exact ⟨_, (0), (by first | rfl | (simp; done) | (simp [*]; done)), H', ⟨by first | omega | exact Nat.le_refl _⟩, ⟨by (with_reducible repeat (first | apply Kd.R_alloc | apply Kd.R_drewN | apply Kd.R_drew)); exact HO251.out⟩, ⟨by repeat (first | (with_reducible first | exact HB.out | apply below_alloc | apply pw_below_drewN | apply below_drew1) | exact HB.out)⟩⟩
  ·rw [if_neg c7] at H
   have c7b0 : decide (a1 < 0) = false := decide_eq_false c7
   clear c7
   (first | rw [c7b0] | (simp only [i64_w, i32_w]; rw [c7b0]) | skip)
   have H' := Aside0.mk H
   clear H
   go_wp2
   go_meet
   case rel => exact ⟨_, (a1), (by first | rfl | (simp; done) | (simp [*]; done)), H', ⟨by first | omega | exact Nat.le_refl _⟩, ⟨by (with_reducible repeat (first | apply Kd.R_alloc | apply Kd.R_drewN | apply Kd.R_drew)); exact HO251.out⟩, ⟨by repeat (first | (with_reducible first | exact HB.out | apply below_alloc | apply pw_below_drewN | apply below_drew1) | exact HB.out)⟩⟩
 case rest =>
  clear HC4
  try clear p2
  try clear c4
  try clear c7
  try clear c7b0
  obtain ⟨kq, x1_3, rfl, HA, HJ3, HO_7, HB⟩ := hcut
  cases kq with
  | zero => exact absurd HA.out (by simp [stoaref01_Piece.j0])
  | succ kj3 =>
   have H := HA.out
   clear HA
   simp only [stoaref01_Piece.j0] at H
   have H' := Aside0.mk H
   clear H
   go_wp2
   go_loopg [7, 8] kj3 (fun kq v7 v8 w' => ∃ (x7_2 : List Int) (x8_2 : Int), v8 = .int .i64 x8_2 ∧ Aside0 (stoaref01_Piece.l0 kq l0 a2 x7_2 x8_2 = some r) ∧ Aside0 (kq ≤ kj3) ∧ Aside0 (Kd.R (Kd.int .u8) 5 w' w.heap.size (fun _ => True) v7 x7_2) ∧ Aside0 (Below w.heap.size w w'))
   case atStart => exact ⟨(y249), (x1_3), (by first | rfl | (simp; done) | (simp [*]; done)), H', ⟨Nat.le_refl _⟩, ⟨by (with_reducible repeat (first | apply Kd.R_alloc | apply Kd.R_drewN | apply Kd.R_drew)); exact HO_7.out⟩, ⟨by repeat (first | (with_reducible first | exact HB.out | apply below_alloc | apply pw_below_drewN | apply below_drew1) | exact HB.out)⟩⟩
   case round =>
    clear H'
    try clear p2
    try clear c4
    try clear c7
    try clear c7b0
    try clear p2
    obtain ⟨x7_2, x8_2, rfl, HA, HK2, HO_7, HB⟩ := hrel
    cases gk with
    | zero => exact absurd HA.out (by simp [stoaref01_Piece.l0])
    | succ k2 =>
     have H := HA.out
     clear HA
     simp only [stoaref01_Piece.l0] at H
     by_cases c8 : x8_2 < (l0.length : Int)
     ·rw [if_pos c8] at H
      have c8b0 : decide (x8_2 < (l0.length : Int)) = true := decide_eq_true c8
      clear c8
      by_cases c9 : x8_2 < a2
      ·rw [if_pos c9] at H
       have c9b0 : decide (x8_2 < a2) = true := decide_eq_true c9
       clear c9
       by_cases c10 : 0 ≤ x8_2
       ·rw [if_pos c10] at H
        have c10b0 : decide (0 ≤ x8_2) = true := decide_eq_true c10
        clear c10
        by_cases c11 : x7_2.length < 140737488355328
        ·rw [if_pos c11] at H
         have LMc11 := Aside0.mk c11
         clear c11
         obtain ⟨y253, hy253⟩ : ∃ y_ : List Int, y_ = (x7_2 ++ [rd l0 x8_2]) := ⟨_, rfl⟩
         replace H : (stoaref01_Piece.l0 k2 l0 a2 y253 (wrap64 (x8_2 + 1))) = some r := by first | (rw [hy253]; with_reducible exact H) | (have H2_ := (Option.bind_some _ _).symm.trans H; rw [hy253]; with_reducible exact H2_) | (have H2_ := (Option.bind_some _ _).symm.trans H; with_reducible exact H2_) | with_reducible exact H | (rw [hy253]; exact H) | exact H
         have Ny253 := Aside0.mk hy253
         clear hy253
         have H' := Aside0.mk H
         clear H
         have p252 : 0 ≤ (x8_2 : Int) := of_decide_eq_true (by first | (with_reducible assumption) | assumption)
         have q252 : x8_2 < (l0.length : Int) := of_decide_eq_true (by first | (with_reducible assumption) | assumption)
         obtain ⟨ad252, e252, hx252_0⟩ := Kd.at_int HR0.out x8_2 p252 q252
         cases e252
         replace hx252_0 := (HB.out.cell (World.block_lt_of_cell? w _ hx252_0)).trans hx252_0
         replace p252 := eq_true p252
         replace q252 := eq_true q252
         go_wp2_with (first | ((with_reducible refine gate_builtin (b := .append) (xs := #[.tmp 24, .tmp 29]) rfl ?_); at_builtin; refine Kd.R_append (Kd.int .u8) (w0 := w) w.heap.size rfl (.tmp 24) (.tmp 29) 25 5 (.int .u8 0) 1 rfl Try.underlying25 info5 rfl (by decide) (by omega) u7 x7_2 (rd l0 x8_2) [.int .u8 (rd l0 x8_2)] (fun _ => True) (fun _ => False) rfl rfl ?aP (fun _ hk => hk.elim) ?aF ?aO ?aB ?aS ?aL ?_; (case aP => exact rfl); (case aB => exact (by repeat (first | (with_reducible first | exact HB.out | apply below_alloc | apply pw_below_drewN | apply below_drew1) | exact HB.out))); (case aF => exact (fun _ _ => trivial)); (case aO => exact (by (with_reducible repeat (first | apply Kd.R_alloc | apply Kd.R_drewN | apply Kd.R_drew)); exact HO_7.out)); (case aS => exact (below_size (by repeat (first | (with_reducible first | exact HB.out | apply below_alloc | apply pw_below_drewN | apply below_drew1) | exact HB.out)))); (case aL => have := LMc11.out; omega); intro v254 w12 ho hb hg hat; rw [← Ny253.out] at ho; have n0_ := Aside0.mk (hb); have n1_ := Aside0.mk (ho); clear HB; clear HO_7; have HB := n0_; have HO255 := n1_; clear n0_ n1_; clear ho hb hg hat))
         go_roundg k2
         case measure => have := HJ3.out; have := HK2.out; omega
         case rel => exact ⟨(y253), (wrap64 (x8_2 + 1)), (by first | rfl | (simp; done) | (simp [*]; done)), H', ⟨by have := HJ3.out; have := HK2.out; omega⟩, ⟨by (with_reducible repeat (first | apply Kd.R_alloc | apply Kd.R_drewN | apply Kd.R_drew)); exact HO255.out⟩, ⟨by repeat (first | (with_reducible first | exact HB.out | apply below_alloc | apply pw_below_drewN | apply below_drew1) | exact HB.out)⟩⟩
        ·rw [if_neg c11] at H
         exact absurd H (by simp)
       ·rw [if_neg c10] at H
        exact absurd H (by simp)
      ·rw [if_neg c9] at H
       have c9b0 : decide (x8_2 < a2) = false := decide_eq_false c9
       clear c9
       obtain rfl := Option.some.inj H
       go_wp2
       go_ret
       exact ⟨_, by first | rfl | (simp [errW_none, errW_some] <;> rfl) | (simp [*, errW_none, errW_some] <;> rfl), by (with_reducible repeat (first | apply Kd.R_alloc | apply Kd.R_drewN | apply Kd.R_drew)); exact HO_7.out, by repeat (first | (with_reducible first | exact HB.out | apply below_alloc | apply pw_below_drewN | apply below_drew1) | exact HB.out)⟩
     ·rw [if_neg c8] at H
      have c8b0 : decide (x8_2 < (l0.length : Int)) = false := decide_eq_false c8
      clear c8
      obtain rfl := Option.some.inj H
      go_wp2
      go_ret
      exact ⟨_, by first | rfl | (simp [errW_none, errW_some] <;> rfl) | (simp [*, errW_none, errW_some] <;> rfl), by (with_reducible repeat (first | apply Kd.R_alloc | apply Kd.R_drewN | apply Kd.R_drew)); exact HO_7.out, by repeat (first | (with_reducible first | exact HB.out | apply below_alloc | apply pw_below_drewN | apply below_drew1) | exact HB.out)⟩

end Go.Proofs.Ytimjmndogalcbaa.PPackedDecodes

-- written by this session's own printing program (myprint.sh)
import Derived.Test.YtaibfjipombilaaPCellOrdersx0
import Derived.Test.YtaibfjipombilaaPCellOrdersx5
import Derived.Test.YtaibfjipombilaaPCellOrdersx6
import Derived.Test.YtaibfjipombilaaPCellOrdersx8
namespace Go.Proofs.Ytaibfjipombilaa.PCellOrders
open Go.RowKit Go.Proofs.YtaibfjipombilaaW.PrintWords Go.Proofs.YtaibfjipombilaaW.PrintLast Go.Proofs.YtaibfjipombilaaW.PrintMore
attribute [local go_sem] max2_int min2_int max_two min_two max_three min_three max_four min_four   -- for this text's walks alone
set_option linter.unusedVariables false
set_option linter.unusedSimpArgs false

/-! ### stoalaw05_CellOrders: function 8 -/
mutual
def stoalaw05_CellOrders.j0 : Nat → Int → Int → Int → Int → Int → Int → Int → Int → Bool → Bool → Int → List Int → Bool → Int → List Int → Option (Bool)
  | 0, _, _, _, _, _, _, _, _, _, _, _, _, _, _, _ => none
  | k + 1, x9, x10, x13, x14, x15, x16, x17, x18, x63, x239000, x239001, x239002, x240000, x240001, x240002 => if x63 = true then (some false) else (if x10 = 0 then (stoalaw05_CellOrders.j1 k x9 x13 x14 x15 x17 x18 (x16 != 0) x239000 x239001 x239002 x240000 x240001 x240002) else (stoalaw05_CellOrders.j1 k x9 x13 x14 x15 x17 x18 true x239000 x239001 x239002 x240000 x240001 x240002))
def stoalaw05_CellOrders.j1 : Nat → Int → Int → Int → Int → Int → Int → Bool → Bool → Int → List Int → Bool → Int → List Int → Option (Bool)
  | 0, _, _, _, _, _, _, _, _, _, _, _, _, _ => none
  | k + 1, x9, x13, x14, x15, x17, x18, x69, x239000, x239001, x239002, x240000, x240001, x240002 => if x69 = true then (some true) else (if x14 = 0 then (if x18 = 0 then (if x13 = (wrap64 (-x9)) then ((stoaref05_Alike.f k x239000 x239001 x239002 x240000 x240001 x240002).bind fun t252 => (if ((x9 == 0) != t252) = true then (some false) else (if x9 > 0 then (some true) else (if x15 > 0 then (some true) else (some (decide (x17 ≤ 0))))))) else (some false)) else (some false)) else (some false))
end
def stoalaw05_CellOrders.f (k : Nat) (a0 : Int) (a1_0 : Bool) (a1_1 : Int) (l1_2 : List Int) (a2_0 : Bool) (a2_1 : Int) (l2_2 : List Int) (a3_0 : Bool) (a3_1 : Int) (l3_2 : List Int) : Option (Bool) := (stoalaw05_alive.f k).bind fun t241 => (if t241 = true then ((cell_Compare.f k a0 a1_0 a1_1 l1_2 a2_0 a2_1 l2_2).bind fun bt242 => ((stoaref05_Compare.f k a0 a1_0 a1_1 l1_2 a2_0 a2_1 l2_2).bind fun bt244 => ((cell_Compare.f k a0 a2_0 a2_1 l2_2 a1_0 a1_1 l1_2).bind fun bt246 => ((cell_Compare.f k a0 a2_0 a2_1 l2_2 a3_0 a3_1 l3_2).bind fun bt248 => ((cell_Compare.f k a0 a1_0 a1_1 l1_2 a3_0 a3_1 l3_2).bind fun bt250 => (if bt242.1 = bt244.1 then (stoalaw05_CellOrders.j0 k bt242.1 bt242.2 bt246.1 bt246.2 bt248.1 bt248.2 bt250.1 bt250.2 (bt242.2 != bt244.2) a1_0 a1_1 l1_2 a2_0 a2_1 l2_2) else (stoalaw05_CellOrders.j0 k bt242.1 bt242.2 bt246.1 bt246.2 bt248.1 bt248.2 bt250.1 bt250.2 true a1_0 a1_1 l1_2 a2_0 a2_1 l2_2))))))) else (some false))
theorem stoalaw05_CellOrders.mono_l : ∀ k, (∀ y0 y1 y2 y3 y4 y5 y6 y7 y8 y9 y10 y11 y12 y13 y14, LeO (stoalaw05_CellOrders.j0 k y0 y1 y2 y3 y4 y5 y6 y7 y8 y9 y10 y11 y12 y13 y14) (stoalaw05_CellOrders.j0 (k + 1) y0 y1 y2 y3 y4 y5 y6 y7 y8 y9 y10 y11 y12 y13 y14)) ∧ (∀ y0 y1 y2 y3 y4 y5 y6 y7 y8 y9 y10 y11 y12, LeO (stoalaw05_CellOrders.j1 k y0 y1 y2 y3 y4 y5 y6 y7 y8 y9 y10 y11 y12) (stoalaw05_CellOrders.j1 (k + 1) y0 y1 y2 y3 y4 y5 y6 y7 y8 y9 y10 y11 y12))
  | 0 => ⟨fun _ _ _ _ _ _ _ _ _ _ _ _ _ _ _ r h => by simp [stoalaw05_CellOrders.j0] at h, fun _ _ _ _ _ _ _ _ _ _ _ _ _ r h => by simp [stoalaw05_CellOrders.j1] at h⟩
  | k + 1 => by
    obtain ⟨ih0, ih1⟩ := stoalaw05_CellOrders.mono_l k
    refine ⟨?_, ?_⟩
    · intro y0 y1 y2 y3 y4 y5 y6 y7 y8 y9 y10 y11 y12 y13 y14
      unfold stoalaw05_CellOrders.j0
      repeat' first
      | (with_reducible exact ih0 _ _ _ _ _ _ _ _ _ _ _ _ _ _ _)
      | (with_reducible exact ih1 _ _ _ _ _ _ _ _ _ _ _ _ _)
      | (with_reducible exact cell_Compare.mono _ _ _ _ _ _ _ _)
      | (with_reducible exact stoalaw05_alive.mono _)
      | (with_reducible exact stoaref05_Alike.mono _ _ _ _ _ _ _)
      | (with_reducible exact stoaref05_Compare.mono _ _ _ _ _ _ _ _)
      | (with_reducible exact LeO.refl _)
      | (with_reducible exact LeO.none _)
      | (with_reducible refine LeO.ite ?_ ?_)
      | (with_reducible refine LeO.bind ?_ (fun _ => ?_))
      | exact ih0 _ _ _ _ _ _ _ _ _ _ _ _ _ _ _
      | exact ih1 _ _ _ _ _ _ _ _ _ _ _ _ _
      | exact cell_Compare.mono _ _ _ _ _ _ _ _
      | exact stoalaw05_alive.mono _
      | exact stoaref05_Alike.mono _ _ _ _ _ _ _
      | exact stoaref05_Compare.mono _ _ _ _ _ _ _ _
      | exact LeO.none _
      | refine LeO.ite ?_ ?_
      | refine LeO.bind ?_ (fun _ => ?_)
    · intro y0 y1 y2 y3 y4 y5 y6 y7 y8 y9 y10 y11 y12
      unfold stoalaw05_CellOrders.j1
      repeat' first
      | (with_reducible exact ih0 _ _ _ _ _ _ _ _ _ _ _ _ _ _ _)
      | (with_reducible exact ih1 _ _ _ _ _ _ _ _ _ _ _ _ _)
      | (with_reducible exact cell_Compare.mono _ _ _ _ _ _ _ _)
      | (with_reducible exact stoalaw05_alive.mono _)
      | (with_reducible exact stoaref05_Alike.mono _ _ _ _ _ _ _)
      | (with_reducible exact stoaref05_Compare.mono _ _ _ _ _ _ _ _)
      | (with_reducible exact LeO.refl _)
      | (with_reducible exact LeO.none _)
      | (with_reducible refine LeO.ite ?_ ?_)
      | (with_reducible refine LeO.bind ?_ (fun _ => ?_))
      | exact ih0 _ _ _ _ _ _ _ _ _ _ _ _ _ _ _
      | exact ih1 _ _ _ _ _ _ _ _ _ _ _ _ _
      | exact cell_Compare.mono _ _ _ _ _ _ _ _
      | exact stoalaw05_alive.mono _
      | exact stoaref05_Alike.mono _ _ _ _ _ _ _
      | exact stoaref05_Compare.mono _ _ _ _ _ _ _ _
      | exact LeO.none _
      | refine LeO.ite ?_ ?_
      | refine LeO.bind ?_ (fun _ => ?_)
theorem stoalaw05_CellOrders.mono : ∀ a0 a1 a2 a3 a4 a5 a6 a7 a8 a9 k, LeO (stoalaw05_CellOrders.f k a0 a1 a2 a3 a4 a5 a6 a7 a8 a9) (stoalaw05_CellOrders.f (k + 1) a0 a1 a2 a3 a4 a5 a6 a7 a8 a9) := by
  intro a0 a1 a2 a3 a4 a5 a6 a7 a8 a9 k
  obtain ⟨ih0, ih1⟩ := stoalaw05_CellOrders.mono_l k
  unfold stoalaw05_CellOrders.f
  repeat' first
      | (with_reducible exact ih0 _ _ _ _ _ _ _ _ _ _ _ _ _ _ _)
      | (with_reducible exact ih1 _ _ _ _ _ _ _ _ _ _ _ _ _)
      | (with_reducible exact cell_Compare.mono _ _ _ _ _ _ _ _)
      | (with_reducible exact stoalaw05_alive.mono _)
      | (with_reducible exact stoaref05_Alike.mono _ _ _ _ _ _ _)
      | (with_reducible exact stoaref05_Compare.mono _ _ _ _ _ _ _ _)
      | (with_reducible exact LeO.refl _)
      | (with_reducible exact LeO.none _)
      | (with_reducible refine LeO.ite ?_ ?_)
      | (with_reducible refine LeO.bind ?_ (fun _ => ?_))
      | exact ih0 _ _ _ _ _ _ _ _ _ _ _ _ _ _ _
      | exact ih1 _ _ _ _ _ _ _ _ _ _ _ _ _
      | exact cell_Compare.mono _ _ _ _ _ _ _ _
      | exact stoalaw05_alive.mono _
      | exact stoaref05_Alike.mono _ _ _ _ _ _ _
      | exact stoaref05_Compare.mono _ _ _ _ _ _ _ _
      | exact LeO.none _
      | refine LeO.ite ?_ ?_
      | refine LeO.bind ?_ (fun _ => ?_)
set_option maxHeartbeats 8000000 in
set_option maxRecDepth 100000 in
theorem stoalaw05_CellOrders.calls (k : Nat) (a0 : Int) (a1_0 : Bool) (a1_1 : Int) (A1_2 : Option Addr) (c1_2 : Nat) (l1_2 : List Int) (a2_0 : Bool) (a2_1 : Int) (A2_2 : Option Addr) (c2_2 : Nat) (l2_2 : List Int) (a3_0 : Bool) (a3_1 : Int) (A3_2 : Option Addr) (c3_2 : Nat) (l3_2 : List Int) (r : Bool) (w : World) (hr1_2 : Kd.C (Kd.int .u8) w A1_2 l1_2.length l1_2) (hc1_2 : l1_2.length ≤ c1_2) (hr2_2 : Kd.C (Kd.int .u8) w A2_2 l2_2.length l2_2) (hc2_2 : l2_2.length ≤ c2_2) (hr3_2 : Kd.C (Kd.int .u8) w A3_2 l3_2.length l3_2) (hc3_2 : l3_2.length ≤ c3_2) (h : stoalaw05_CellOrders.f k a0 a1_0 a1_1 l1_2 a2_0 a2_1 l2_2 a3_0 a3_1 l3_2 = some r) :
    Calls Try.prog 8 #[.int .i64 a0, .agg #[.bool a1_0, .int .i64 a1_1, .slice A1_2 l1_2.length c1_2], .agg #[.bool a2_0, .int .i64 a2_1, .slice A2_2 l2_2.length c2_2], .agg #[.bool a3_0, .int .i64 a3_1, .slice A3_2 l3_2.length c3_2]] w fun e w' => e = .returned (.bool r) ∧ Below w.heap.size w w' := by
  have hu24 := Try.underlying24
  have HR1_2 := Aside0.mk hr1_2
  have HC1_2 := Aside0.mk hc1_2
  clear hr1_2 hc1_2
  have HR2_2 := Aside0.mk hr2_2
  have HC2_2 := Aside0.mk hc2_2
  clear hr2_2 hc2_2
  have HR3_2 := Aside0.mk hr3_2
  have HC3_2 := Aside0.mk hc3_2
  clear hr3_2 hc3_2
  have HB := Aside0.mk (Below.refl w.heap.size w)
  have H : ((stoalaw05_alive.f k).bind fun t241 => (if t241 = true then ((cell_Compare.f k a0 a1_0 a1_1 l1_2 a2_0 a2_1 l2_2).bind fun bt242 => ((stoaref05_Compare.f k a0 a1_0 a1_1 l1_2 a2_0 a2_1 l2_2).bind fun bt244 => ((cell_Compare.f k a0 a2_0 a2_1 l2_2 a1_0 a1_1 l1_2).bind fun bt246 => ((cell_Compare.f k a0 a2_0 a2_1 l2_2 a3_0 a3_1 l3_2).bind fun bt248 => ((cell_Compare.f k a0 a1_0 a1_1 l1_2 a3_0 a3_1 l3_2).bind fun bt250 => (if bt242.1 = bt244.1 then (stoalaw05_CellOrders.j0 k bt242.1 bt242.2 bt246.1 bt246.2 bt248.1 bt248.2 bt250.1 bt250.2 (bt242.2 != bt244.2) a1_0 a1_1 l1_2 a2_0 a2_1 l2_2) else (stoalaw05_CellOrders.j0 k bt242.1 bt242.2 bt246.1 bt246.2 bt248.1 bt248.2 bt250.1 bt250.2 true a1_0 a1_1 l1_2 a2_0 a2_1 l2_2))))))) else (some false))) = some r := h
  clear h
  replace H := Option.bind_eq_some_iff.mp H
  obtain ⟨t241, A50, H⟩ := H
  replace H : (if t241 = true then ((cell_Compare.f k a0 a1_0 a1_1 l1_2 a2_0 a2_1 l2_2).bind fun bt242 => ((stoaref05_Compare.f k a0 a1_0 a1_1 l1_2 a2_0 a2_1 l2_2).bind fun bt244 => ((cell_Compare.f k a0 a2_0 a2_1 l2_2 a1_0 a1_1 l1_2).bind fun bt246 => ((cell_Compare.f k a0 a2_0 a2_1 l2_2 a3_0 a3_1 l3_2).bind fun bt248 => ((cell_Compare.f k a0 a1_0 a1_1 l1_2 a3_0 a3_1 l3_2).bind fun bt250 => (if bt242.1 = bt244.1 then (stoalaw05_CellOrders.j0 k bt242.1 bt242.2 bt246.1 bt246.2 bt248.1 bt248.2 bt250.1 bt250.2 (bt242.2 != bt244.2) a1_0 a1_1 l1_2 a2_0 a2_1 l2_2) else (stoalaw05_CellOrders.j0 k bt242.1 bt242.2 bt246.1 bt246.2 bt248.1 bt248.2 bt250.1 bt250.2 true a1_0 a1_1 l1_2 a2_0 a2_1 l2_2))))))) else (some false)) = some r := H
  have A5 := Aside0.mk A50
  clear A50
  by_cases c6 : t241 = true
  · subst c6
    have H1 : ((cell_Compare.f k a0 a1_0 a1_1 l1_2 a2_0 a2_1 l2_2).bind fun bt242 => ((stoaref05_Compare.f k a0 a1_0 a1_1 l1_2 a2_0 a2_1 l2_2).bind fun bt244 => ((cell_Compare.f k a0 a2_0 a2_1 l2_2 a1_0 a1_1 l1_2).bind fun bt246 => ((cell_Compare.f k a0 a2_0 a2_1 l2_2 a3_0 a3_1 l3_2).bind fun bt248 => ((cell_Compare.f k a0 a1_0 a1_1 l1_2 a3_0 a3_1 l3_2).bind fun bt250 => (if bt242.1 = bt244.1 then (stoalaw05_CellOrders.j0 k bt242.1 bt242.2 bt246.1 bt246.2 bt248.1 bt248.2 bt250.1 bt250.2 (bt242.2 != bt244.2) a1_0 a1_1 l1_2 a2_0 a2_1 l2_2) else (stoalaw05_CellOrders.j0 k bt242.1 bt242.2 bt246.1 bt246.2 bt248.1 bt248.2 bt250.1 bt250.2 true a1_0 a1_1 l1_2 a2_0 a2_1 l2_2))))))) = some r := by rw [if_pos rfl] at H; exact H
    clear H
    have H := H1
    clear H1
    replace H := Option.bind_eq_some_iff.mp H
    obtain ⟨⟨t242, t243⟩, A70, H⟩ := H
    replace H : ((stoaref05_Compare.f k a0 a1_0 a1_1 l1_2 a2_0 a2_1 l2_2).bind fun bt244 => ((cell_Compare.f k a0 a2_0 a2_1 l2_2 a1_0 a1_1 l1_2).bind fun bt246 => ((cell_Compare.f k a0 a2_0 a2_1 l2_2 a3_0 a3_1 l3_2).bind fun bt248 => ((cell_Compare.f k a0 a1_0 a1_1 l1_2 a3_0 a3_1 l3_2).bind fun bt250 => (if t242 = bt244.1 then (stoalaw05_CellOrders.j0 k t242 t243 bt246.1 bt246.2 bt248.1 bt248.2 bt250.1 bt250.2 (t243 != bt244.2) a1_0 a1_1 l1_2 a2_0 a2_1 l2_2) else (stoalaw05_CellOrders.j0 k t242 t243 bt246.1 bt246.2 bt248.1 bt248.2 bt250.1 bt250.2 true a1_0 a1_1 l1_2 a2_0 a2_1 l2_2)))))) = some r := H
    have A7 := Aside0.mk A70
    clear A70
    replace H := Option.bind_eq_some_iff.mp H
    obtain ⟨⟨t244, t245⟩, A80, H⟩ := H
    replace H : ((cell_Compare.f k a0 a2_0 a2_1 l2_2 a1_0 a1_1 l1_2).bind fun bt246 => ((cell_Compare.f k a0 a2_0 a2_1 l2_2 a3_0 a3_1 l3_2).bind fun bt248 => ((cell_Compare.f k a0 a1_0 a1_1 l1_2 a3_0 a3_1 l3_2).bind fun bt250 => (if t242 = t244 then (stoalaw05_CellOrders.j0 k t242 t243 bt246.1 bt246.2 bt248.1 bt248.2 bt250.1 bt250.2 (t243 != t245) a1_0 a1_1 l1_2 a2_0 a2_1 l2_2) else (stoalaw05_CellOrders.j0 k t242 t243 bt246.1 bt246.2 bt248.1 bt248.2 bt250.1 bt250.2 true a1_0 a1_1 l1_2 a2_0 a2_1 l2_2))))) = some r := H
    have A8 := Aside0.mk A80
    clear A80
    replace H := Option.bind_eq_some_iff.mp H
    obtain ⟨⟨t246, t247⟩, A90, H⟩ := H
    replace H : ((cell_Compare.f k a0 a2_0 a2_1 l2_2 a3_0 a3_1 l3_2).bind fun bt248 => ((cell_Compare.f k a0 a1_0 a1_1 l1_2 a3_0 a3_1 l3_2).bind fun bt250 => (if t242 = t244 then (stoalaw05_CellOrders.j0 k t242 t243 t246 t247 bt248.1 bt248.2 bt250.1 bt250.2 (t243 != t245) a1_0 a1_1 l1_2 a2_0 a2_1 l2_2) else (stoalaw05_CellOrders.j0 k t242 t243 t246 t247 bt248.1 bt248.2 bt250.1 bt250.2 true a1_0 a1_1 l1_2 a2_0 a2_1 l2_2)))) = some r := H
    have A9 := Aside0.mk A90
    clear A90
    replace H := Option.bind_eq_some_iff.mp H
    obtain ⟨⟨t248, t249⟩, A100, H⟩ := H
    replace H : ((cell_Compare.f k a0 a1_0 a1_1 l1_2 a3_0 a3_1 l3_2).bind fun bt250 => (if t242 = t244 then (stoalaw05_CellOrders.j0 k t242 t243 t246 t247 t248 t249 bt250.1 bt250.2 (t243 != t245) a1_0 a1_1 l1_2 a2_0 a2_1 l2_2) else (stoalaw05_CellOrders.j0 k t242 t243 t246 t247 t248 t249 bt250.1 bt250.2 true a1_0 a1_1 l1_2 a2_0 a2_1 l2_2))) = some r := H
    have A10 := Aside0.mk A100
    clear A100
    replace H := Option.bind_eq_some_iff.mp H
    obtain ⟨⟨t250, t251⟩, A110, H⟩ := H
    replace H : (if t242 = t244 then (stoalaw05_CellOrders.j0 k t242 t243 t246 t247 t248 t249 t250 t251 (t243 != t245) a1_0 a1_1 l1_2 a2_0 a2_1 l2_2) else (stoalaw05_CellOrders.j0 k t242 t243 t246 t247 t248 t249 t250 t251 true a1_0 a1_1 l1_2 a2_0 a2_1 l2_2)) = some r := H
    have A11 := Aside0.mk A110
    clear A110
    have HC12 := Aside0.mk H
    clear H
    go_enter Try.func8, Try.ntmps8
    go_upto_region 8 with (first | ((with_reducible refine gate_dst (N := 5) rfl ?_); refine box_event ?hg (N := 5) ?hd (cs := #[.bool a1_0, .int .i64 a1_1, .slice A1_2 l1_2.length c1_2]) (t := 24) ?hr ?_; (case hd => rfl); (case hg => rfl); (case hr => first | (go_simp; done) | (go_simp; rfl)); intro gb238 hg w13 hbox hb; have n0_ := Aside0.mk (below_step (by repeat (first | (with_reducible first | exact HB.out | apply below_alloc | apply pw_below_drewN | apply below_drew1) | exact HB.out)) hb); have n1_ := Aside0.mk (hbox); have n2_ := Aside0.mk ((by rw [hg]; exact (below_size (by repeat (first | (with_reducible first | exact HB.out | apply below_alloc | apply pw_below_drewN | apply below_drew1) | exact HB.out))) : w.heap.size ≤ gb238)); have n3_ := Aside0.mk ((by rw [hg]; exact (below_size (by repeat (first | (with_reducible first | exact HB.out | apply below_alloc | apply pw_below_drewN | apply below_drew1) | exact HB.out))) : w.heap.size ≤ gb238)); clear HB; have HB := n0_; have BK238 := n1_; have GW238 := n2_; have GE238 := n3_; clear n0_ n1_ n2_ n3_; clear hb hbox hg) | ((with_reducible refine gate_dst (N := 6) rfl ?_); refine box_event ?hg (N := 6) ?hd (cs := #[.bool a2_0, .int .i64 a2_1, .slice A2_2 l2_2.length c2_2]) (t := 24) ?hr ?_; (case hd => rfl); (case hg => rfl); (case hr => first | (go_simp; done) | (go_simp; rfl)); intro gb239 hg w14 hbox hb; have n0_ := Aside0.mk (blk_below (g := gb238) (o := .cells #[.bool a1_0, .int .i64 a1_1, .slice A1_2 l1_2.length c1_2] 24 (0, 0)) (by (with_reducible repeat (first | refine blk_drewN ?_ _ | refine blk_drew ?_ | refine blk_alloc ?_ _)); exact BK238.out) hb); have n1_ := Aside0.mk (below_step (by repeat (first | (with_reducible first | exact HB.out | apply below_alloc | apply pw_below_drewN | apply below_drew1 | refine below_set ?_ GE238.out) | exact HB.out)) hb); have n2_ := Aside0.mk (hbox); have n3_ := Aside0.mk ((by rw [hg]; exact (below_size (by repeat (first | (with_reducible first | exact HB.out | apply below_alloc | apply pw_below_drewN | apply below_drew1 | refine below_set ?_ GE238.out) | exact HB.out))) : w.heap.size ≤ gb239)); have n4_ := Aside0.mk ((by rw [hg]; exact (below_size (by repeat (first | (with_reducible first | exact HB.out | apply below_alloc | apply pw_below_drewN | apply below_drew1 | refine below_set ?_ GE238.out) | exact HB.out))) : w.heap.size ≤ gb239)); have n5_ := Aside0.mk ((by rw [hg]; exact Nat.ne_of_lt (blk_lt (g := gb238) (o := .cells #[.bool a1_0, .int .i64 a1_1, .slice A1_2 l1_2.length c1_2] 24 (0, 0)) (by (with_reducible repeat (first | refine blk_drewN ?_ _ | refine blk_drew ?_ | refine blk_alloc ?_ _)); exact BK238.out)) : gb238 ≠ gb239)); have n6_ := Aside0.mk ((by rw [hg]; exact Nat.ne_of_gt (blk_lt (g := gb238) (o := .cells #[.bool a1_0, .int .i64 a1_1, .slice A1_2 l1_2.length c1_2] 24 (0, 0)) (by (with_reducible repeat (first | refine blk_drewN ?_ _ | refine blk_drew ?_ | refine blk_alloc ?_ _)); exact BK238.out)) : gb239 ≠ gb238)); clear BK238; clear HB; have BK238 := n0_; have HB := n1_; have BK239 := n2_; have GW239 := n3_; have GE239 := n4_; have NB238_239 := n5_; have NB239_238 := n6_; clear n0_ n1_ n2_ n3_ n4_ n5_ n6_; clear hb hbox hg) | ((with_reducible refine gate_dst (N := 7) rfl ?_); refine box_event ?hg (N := 7) ?hd (cs := #[.bool a3_0, .int .i64 a3_1, .slice A3_2 l3_2.length c3_2]) (t := 24) ?hr ?_; (case hd => rfl); (case hg => rfl); (case hr => first | (go_simp; done) | (go_simp; rfl)); intro gb240 hg w15 hbox hb; have n0_ := Aside0.mk (blk_below (g := gb238) (o := .cells #[.bool a1_0, .int .i64 a1_1, .slice A1_2 l1_2.length c1_2] 24 (0, 0)) (by (with_reducible repeat (first | refine blk_drewN ?_ _ | refine blk_drew ?_ | refine blk_alloc ?_ _)); exact BK238.out) hb); have n1_ := Aside0.mk (blk_below (g := gb239) (o := .cells #[.bool a2_0, .int .i64 a2_1, .slice A2_2 l2_2.length c2_2] 24 (0, 0)) (by (with_reducible repeat (first | refine blk_drewN ?_ _ | refine blk_drew ?_ | refine blk_alloc ?_ _)); exact BK239.out) hb); have n2_ := Aside0.mk (below_step (by repeat (first | (with_reducible first | exact HB.out | apply below_alloc | apply pw_below_drewN | apply below_drew1 | refine below_set ?_ GE238.out | refine below_set ?_ GE239.out) | exact HB.out)) hb); have n3_ := Aside0.mk (hbox); have n4_ := Aside0.mk ((by rw [hg]; exact (below_size (by repeat (first | (with_reducible first | exact HB.out | apply below_alloc | apply pw_below_drewN | apply below_drew1 | refine below_set ?_ GE238.out | refine below_set ?_ GE239.out) | exact HB.out))) : w.heap.size ≤ gb240)); have n5_ := Aside0.mk ((by rw [hg]; exact (below_size (by repeat (first | (with_reducible first | exact HB.out | apply below_alloc | apply pw_below_drewN | apply below_drew1 | refine below_set ?_ GE238.out | refine below_set ?_ GE239.out) | exact HB.out))) : w.heap.size ≤ gb240)); have n6_ := Aside0.mk ((by rw [hg]; exact Nat.ne_of_lt (blk_lt (g := gb238) (o := .cells #[.bool a1_0, .int .i64 a1_1, .slice A1_2 l1_2.length c1_2] 24 (0, 0)) (by (with_reducible repeat (first | refine blk_drewN ?_ _ | refine blk_drew ?_ | refine blk_alloc ?_ _)); exact BK238.out)) : gb238 ≠ gb240)); have n7_ := Aside0.mk ((by rw [hg]; exact Nat.ne_of_gt (blk_lt (g := gb238) (o := .cells #[.bool a1_0, .int .i64 a1_1, .slice A1_2 l1_2.length c1_2] 24 (0, 0)) (by (with_reducible repeat (first | refine blk_drewN ?_ _ | refine blk_drew ?_ | refine blk_alloc ?_ _)); exact BK238.out)) : gb240 ≠ gb238)); have n8_ := Aside0.mk ((by rw [hg]; exact Nat.ne_of_lt (blk_lt (g := gb239) (o := .cells #[.bool a2_0, .int .i64 a2_1, .slice A2_2 l2_2.length c2_2] 24 (0, 0)) (by (with_reducible repeat (first | refine blk_drewN ?_ _ | refine blk_drew ?_ | refine blk_alloc ?_ _)); exact BK239.out)) : gb239 ≠ gb240)); have n9_ := Aside0.mk ((by rw [hg]; exact Nat.ne_of_gt (blk_lt (g := gb239) (o := .cells #[.bool a2_0, .int .i64 a2_1, .slice A2_2 l2_2.length c2_2] 24 (0, 0)) (by (with_reducible repeat (first | refine blk_drewN ?_ _ | refine blk_drew ?_ | refine blk_alloc ?_ _)); exact BK239.out)) : gb240 ≠ gb239)); clear BK238; clear BK239; clear HB; have BK238 := n0_; have BK239 := n1_; have HB := n2_; have BK240 := n3_; have GW240 := n4_; have GE240 := n5_; have NB238_240 := n6_; have NB240_238 := n7_; have NB239_240 := n8_; have NB240_239 := n9_; clear n0_ n1_ n2_ n3_ n4_ n5_ n6_ n7_ n8_ n9_; clear hb hbox hg) | ((with_reducible refine gate_callee (f := 9) rfl ?_); refine goesL_ (some 19) rfl rfl Try.func9 (by kernel_rfl) rfl #[] rfl (by (try simp only [List.map_toArray, List.map_cons, List.map_nil]); first | done | rfl | (simp only [List.length_drop, List.length_take]; rfl)) ?_; (with_reducible refine (stoalaw05_alive.calls k  true _ A5.out).mono ?_); rintro e w16 ⟨rfl, hb⟩; refine ⟨_, rfl, ?_⟩; have n0_ := Aside0.mk (blk_below (g := gb238) (o := .cells #[.bool a1_0, .int .i64 a1_1, .slice A1_2 l1_2.length c1_2] 24 (0, 0)) (by (with_reducible repeat (first | refine blk_drewN ?_ _ | refine blk_drew ?_ | refine blk_alloc ?_ _)); exact BK238.out) hb); have n1_ := Aside0.mk (blk_below (g := gb239) (o := .cells #[.bool a2_0, .int .i64 a2_1, .slice A2_2 l2_2.length c2_2] 24 (0, 0)) (by (with_reducible repeat (first | refine blk_drewN ?_ _ | refine blk_drew ?_ | refine blk_alloc ?_ _)); exact BK239.out) hb); have n2_ := Aside0.mk (blk_below (g := gb240) (o := .cells #[.bool a3_0, .int .i64 a3_1, .slice A3_2 l3_2.length c3_2] 24 (0, 0)) (by (with_reducible repeat (first | refine blk_drewN ?_ _ | refine blk_drew ?_ | refine blk_alloc ?_ _)); exact BK240.out) hb); have n3_ := Aside0.mk (below_step (by repeat (first | (with_reducible first | exact HB.out | apply below_alloc | apply pw_below_drewN | apply below_drew1 | refine below_set ?_ GE238.out | refine below_set ?_ GE239.out | refine below_set ?_ GE240.out) | exact HB.out)) hb); clear BK238; clear BK239; clear BK240; clear HB; have BK238 := n0_; have BK239 := n1_; have BK240 := n2_; have HB := n3_; clear n0_ n1_ n2_ n3_; (try clear hb); (try clear hb2); (try clear hk); (try clear hi); have hnb17 := NB238_239.out; have hnc17 := NB239_238.out; have hnb18 := NB238_240.out; have hnc18 := NB240_238.out; have hcz19_0 : w16.cell? ⟨gb238, 0, none⟩ = some (.bool a1_0) := (blk_cell BK238.out 0).trans rfl; have hcz19_1 : w16.cell? ⟨gb238, 1, none⟩ = some (.int .i64 a1_1) := (blk_cell BK238.out 1).trans rfl; have hcz19_2 : w16.cell? ⟨gb238, 2, none⟩ = some (.slice A1_2 l1_2.length c1_2) := (blk_cell BK238.out 2).trans rfl; have hfz19_0 := blk_frozen BK238.out 0; have hfz19_1 := blk_frozen BK238.out 1; have hfz19_2 := blk_frozen BK238.out 2; have hnb20 := NB239_240.out; have hnc20 := NB240_239.out; have hcz21_0 : w16.cell? ⟨gb239, 0, none⟩ = some (.bool a2_0) := (blk_cell BK239.out 0).trans rfl; have hcz21_1 : w16.cell? ⟨gb239, 1, none⟩ = some (.int .i64 a2_1) := (blk_cell BK239.out 1).trans rfl; have hcz21_2 : w16.cell? ⟨gb239, 2, none⟩ = some (.slice A2_2 l2_2.length c2_2) := (blk_cell BK239.out 2).trans rfl; have hfz21_0 := blk_frozen BK239.out 0; have hfz21_1 := blk_frozen BK239.out 1; have hfz21_2 := blk_frozen BK239.out 2) | ((with_reducible refine gate_callee (f := 26) rfl ?_); refine goesL_ (some 25) rfl rfl Try.func26 (by kernel_rfl) rfl #[.int .i64 a0, .agg #[.bool a1_0, .int .i64 a1_1, .slice A1_2 l1_2.length c1_2], .agg #[.bool a2_0, .int .i64 a2_1, .slice A2_2 l2_2.length c2_2]] rfl (by (try simp only [List.map_toArray, List.map_cons, List.map_nil]); first | done | rfl | (simp only [List.length_drop, List.length_take]; rfl)) ?_; (with_reducible refine (cell_Compare.calls k a0 a1_0 a1_1 _ _ l1_2 a2_0 a2_1 _ _ l2_2 t242 t243 _ ?side1 ?side2 ?side3 ?side4 A7.out).mono ?_); (case side1 => repeat (first | exact (Kd.C_below HR1_2.out HB.out) | (with_reducible refine Kd.C_alloc ?_ _) | (with_reducible refine Kd.C_drewN ?_ _) | (with_reducible refine Kd.C_drew ?_))); (case side2 => exact HC1_2.out); (case side3 => repeat (first | exact (Kd.C_below HR2_2.out HB.out) | (with_reducible refine Kd.C_alloc ?_ _) | (with_reducible refine Kd.C_drewN ?_ _) | (with_reducible refine Kd.C_drew ?_))); (case side4 => exact HC2_2.out); rintro e w22 ⟨rfl, hb⟩; refine ⟨_, rfl, ?_⟩; have n0_ := Aside0.mk (blk_below (g := gb238) (o := .cells #[.bool a1_0, .int .i64 a1_1, .slice A1_2 l1_2.length c1_2] 24 (0, 0)) (by (with_reducible repeat (first | refine blk_drewN ?_ _ | refine blk_drew ?_ | refine blk_alloc ?_ _)); exact BK238.out) hb); have n1_ := Aside0.mk (blk_below (g := gb239) (o := .cells #[.bool a2_0, .int .i64 a2_1, .slice A2_2 l2_2.length c2_2] 24 (0, 0)) (by (with_reducible repeat (first | refine blk_drewN ?_ _ | refine blk_drew ?_ | refine blk_alloc ?_ _)); exact BK239.out) hb); have n2_ := Aside0.mk (blk_below (g := gb240) (o := .cells #[.bool a3_0, .int .i64 a3_1, .slice A3_2 l3_2.length c3_2] 24 (0, 0)) (by (with_reducible repeat (first | refine blk_drewN ?_ _ | refine blk_drew ?_ | refine blk_alloc ?_ _)); exact BK240.out) hb); have n3_ := Aside0.mk (below_step (by repeat (first | (with_reducible first | exact HB.out | apply below_alloc | apply pw_below_drewN | apply below_drew1 | refine below_set ?_ GE238.out | refine below_set ?_ GE239.out | refine below_set ?_ GE240.out) | exact HB.out)) hb); clear BK238; clear BK239; clear BK240; clear HB; have BK238 := n0_; have BK239 := n1_; have BK240 := n2_; have HB := n3_; clear n0_ n1_ n2_ n3_; (try clear hb); (try clear hb2); (try clear hk); (try clear hi); have hcz23_0 : w22.cell? ⟨gb238, 0, none⟩ = some (.bool a1_0) := (blk_cell BK238.out 0).trans rfl; have hcz23_1 : w22.cell? ⟨gb238, 1, none⟩ = some (.int .i64 a1_1) := (blk_cell BK238.out 1).trans rfl; have hcz23_2 : w22.cell? ⟨gb238, 2, none⟩ = some (.slice A1_2 l1_2.length c1_2) := (blk_cell BK238.out 2).trans rfl; have hfz23_0 := blk_frozen BK238.out 0; have hfz23_1 := blk_frozen BK238.out 1; have hfz23_2 := blk_frozen BK238.out 2; have hcz24_0 : w22.cell? ⟨gb239, 0, none⟩ = some (.bool a2_0) := (blk_cell BK239.out 0).trans rfl; have hcz24_1 : w22.cell? ⟨gb239, 1, none⟩ = some (.int .i64 a2_1) := (blk_cell BK239.out 1).trans rfl; have hcz24_2 : w22.cell? ⟨gb239, 2, none⟩ = some (.slice A2_2 l2_2.length c2_2) := (blk_cell BK239.out 2).trans rfl; have hfz24_0 := blk_frozen BK239.out 0; have hfz24_1 := blk_frozen BK239.out 1; have hfz24_2 := blk_frozen BK239.out 2) | ((with_reducible refine gate_callee (f := 27) rfl ?_); refine goesL_ (some 32) rfl rfl Try.func27 (by kernel_rfl) rfl #[.int .i64 a0, .agg #[.bool a1_0, .int .i64 a1_1, .slice A1_2 l1_2.length c1_2], .agg #[.bool a2_0, .int .i64 a2_1, .slice A2_2 l2_2.length c2_2]] rfl (by (try simp only [List.map_toArray, List.map_cons, List.map_nil]); first | done | rfl | (simp only [List.length_drop, List.length_take]; rfl)) ?_; (with_reducible refine (stoaref05_Compare.calls k a0 a1_0 a1_1 _ _ l1_2 a2_0 a2_1 _ _ l2_2 t244 t245 _ ?side1 ?side2 ?side3 ?side4 A8.out).mono ?_); (case side1 => repeat (first | exact (Kd.C_below HR1_2.out HB.out) | (with_reducible refine Kd.C_alloc ?_ _) | (with_reducible refine Kd.C_drewN ?_ _) | (with_reducible refine Kd.C_drew ?_))); (case side2 => exact HC1_2.out); (case side3 => repeat (first | exact (Kd.C_below HR2_2.out HB.out) | (with_reducible refine Kd.C_alloc ?_ _) | (with_reducible refine Kd.C_drewN ?_ _) | (with_reducible refine Kd.C_drew ?_))); (case side4 => exact HC2_2.out); rintro e w25 ⟨rfl, hb⟩; refine ⟨_, rfl, ?_⟩; have n0_ := Aside0.mk (blk_below (g := gb238) (o := .cells #[.bool a1_0, .int .i64 a1_1, .slice A1_2 l1_2.length c1_2] 24 (0, 0)) (by (with_reducible repeat (first | refine blk_drewN ?_ _ | refine blk_drew ?_ | refine blk_alloc ?_ _)); exact BK238.out) hb); have n1_ := Aside0.mk (blk_below (g := gb239) (o := .cells #[.bool a2_0, .int .i64 a2_1, .slice A2_2 l2_2.length c2_2] 24 (0, 0)) (by (with_reducible repeat (first | refine blk_drewN ?_ _ | refine blk_drew ?_ | refine blk_alloc ?_ _)); exact BK239.out) hb); have n2_ := Aside0.mk (blk_below (g := gb240) (o := .cells #[.bool a3_0, .int .i64 a3_1, .slice A3_2 l3_2.length c3_2] 24 (0, 0)) (by (with_reducible repeat (first | refine blk_drewN ?_ _ | refine blk_drew ?_ | refine blk_alloc ?_ _)); exact BK240.out) hb); have n3_ := Aside0.mk (below_step (by repeat (first | (with_reducible first | exact HB.out | apply below_alloc | apply pw_below_drewN | apply below_drew1 | refine below_set ?_ GE238.out | refine below_set ?_ GE239.out | refine below_set ?_ GE240.out) | exact HB.out)) hb); clear BK238; clear BK239; clear BK240; clear HB; have BK238 := n0_; have BK239 := n1_; have BK240 := n2_; have HB := n3_; clear n0_ n1_ n2_ n3_; (try clear hb); (try clear hb2); (try clear hk); (try clear hi); have hcz26_0 : w25.cell? ⟨gb239, 0, none⟩ = some (.bool a2_0) := (blk_cell BK239.out 0).trans rfl; have hcz26_1 : w25.cell? ⟨gb239, 1, none⟩ = some (.int .i64 a2_1) := (blk_cell BK239.out 1).trans rfl; have hcz26_2 : w25.cell? ⟨gb239, 2, none⟩ = some (.slice A2_2 l2_2.length c2_2) := (blk_cell BK239.out 2).trans rfl; have hfz26_0 := blk_frozen BK239.out 0; have hfz26_1 := blk_frozen BK239.out 1; have hfz26_2 := blk_frozen BK239.out 2; have hcz27_0 : w25.cell? ⟨gb238, 0, none⟩ = some (.bool a1_0) := (blk_cell BK238.out 0).trans rfl; have hcz27_1 : w25.cell? ⟨gb238, 1, none⟩ = some (.int .i64 a1_1) := (blk_cell BK238.out 1).trans rfl; have hcz27_2 : w25.cell? ⟨gb238, 2, none⟩ = some (.slice A1_2 l1_2.length c1_2) := (blk_cell BK238.out 2).trans rfl; have hfz27_0 := blk_frozen BK238.out 0; have hfz27_1 := blk_frozen BK238.out 1; have hfz27_2 := blk_frozen BK238.out 2) | ((with_reducible refine gate_callee (f := 26) rfl ?_); refine goesL_ (some 39) rfl rfl Try.func26 (by kernel_rfl) rfl #[.int .i64 a0, .agg #[.bool a2_0, .int .i64 a2_1, .slice A2_2 l2_2.length c2_2], .agg #[.bool a1_0, .int .i64 a1_1, .slice A1_2 l1_2.length c1_2]] rfl (by (try simp only [List.map_toArray, List.map_cons, List.map_nil]); first | done | rfl | (simp only [List.length_drop, List.length_take]; rfl)) ?_; (with_reducible refine (cell_Compare.calls k a0 a2_0 a2_1 _ _ l2_2 a1_0 a1_1 _ _ l1_2 t246 t247 _ ?side1 ?side2 ?side3 ?side4 A9.out).mono ?_); (case side1 => repeat (first | exact (Kd.C_below HR2_2.out HB.out) | (with_reducible refine Kd.C_alloc ?_ _) | (with_reducible refine Kd.C_drewN ?_ _) | (with_reducible refine Kd.C_drew ?_))); (case side2 => exact HC2_2.out); (case side3 => repeat (first | exact (Kd.C_below HR1_2.out HB.out) | (with_reducible refine Kd.C_alloc ?_ _) | (with_reducible refine Kd.C_drewN ?_ _) | (with_reducible refine Kd.C_drew ?_))); (case side4 => exact HC1_2.out); rintro e w28 ⟨rfl, hb⟩; refine ⟨_, rfl, ?_⟩; have n0_ := Aside0.mk (blk_below (g := gb238) (o := .cells #[.bool a1_0, .int .i64 a1_1, .slice A1_2 l1_2.length c1_2] 24 (0, 0)) (by (with_reducible repeat (first | refine blk_drewN ?_ _ | refine blk_drew ?_ | refine blk_alloc ?_ _)); exact BK238.out) hb); have n1_ := Aside0.mk (blk_below (g := gb239) (o := .cells #[.bool a2_0, .int .i64 a2_1, .slice A2_2 l2_2.length c2_2] 24 (0, 0)) (by (with_reducible repeat (first | refine blk_drewN ?_ _ | refine blk_drew ?_ | refine blk_alloc ?_ _)); exact BK239.out) hb); have n2_ := Aside0.mk (blk_below (g := gb240) (o := .cells #[.bool a3_0, .int .i64 a3_1, .slice A3_2 l3_2.length c3_2] 24 (0, 0)) (by (with_reducible repeat (first | refine blk_drewN ?_ _ | refine blk_drew ?_ | refine blk_alloc ?_ _)); exact BK240.out) hb); have n3_ := Aside0.mk (below_step (by repeat (first | (with_reducible first | exact HB.out | apply below_alloc | apply pw_below_drewN | apply below_drew1 | refine below_set ?_ GE238.out | refine below_set ?_ GE239.out | refine below_set ?_ GE240.out) | exact HB.out)) hb); clear BK238; clear BK239; clear BK240; clear HB; have BK238 := n0_; have BK239 := n1_; have BK240 := n2_; have HB := n3_; clear n0_ n1_ n2_ n3_; (try clear hb); (try clear hb2); (try clear hk); (try clear hi); have hcz29_0 : w28.cell? ⟨gb239, 0, none⟩ = some (.bool a2_0) := (blk_cell BK239.out 0).trans rfl; have hcz29_1 : w28.cell? ⟨gb239, 1, none⟩ = some (.int .i64 a2_1) := (blk_cell BK239.out 1).trans rfl; have hcz29_2 : w28.cell? ⟨gb239, 2, none⟩ = some (.slice A2_2 l2_2.length c2_2) := (blk_cell BK239.out 2).trans rfl; have hfz29_0 := blk_frozen BK239.out 0; have hfz29_1 := blk_frozen BK239.out 1; have hfz29_2 := blk_frozen BK239.out 2; have hcz30_0 : w28.cell? ⟨gb240, 0, none⟩ = some (.bool a3_0) := (blk_cell BK240.out 0).trans rfl; have hcz30_1 : w28.cell? ⟨gb240, 1, none⟩ = some (.int .i64 a3_1) := (blk_cell BK240.out 1).trans rfl; have hcz30_2 : w28.cell? ⟨gb240, 2, none⟩ = some (.slice A3_2 l3_2.length c3_2) := (blk_cell BK240.out 2).trans rfl; have hfz30_0 := blk_frozen BK240.out 0; have hfz30_1 := blk_frozen BK240.out 1; have hfz30_2 := blk_frozen BK240.out 2) | ((with_reducible refine gate_callee (f := 26) rfl ?_); refine goesL_ (some 46) rfl rfl Try.func26 (by kernel_rfl) rfl #[.int .i64 a0, .agg #[.bool a2_0, .int .i64 a2_1, .slice A2_2 l2_2.length c2_2], .agg #[.bool a3_0, .int .i64 a3_1, .slice A3_2 l3_2.length c3_2]] rfl (by (try simp only [List.map_toArray, List.map_cons, List.map_nil]); first | done | rfl | (simp only [List.length_drop, List.length_take]; rfl)) ?_; (with_reducible refine (cell_Compare.calls k a0 a2_0 a2_1 _ _ l2_2 a3_0 a3_1 _ _ l3_2 t248 t249 _ ?side1 ?side2 ?side3 ?side4 A10.out).mono ?_); (case side1 => repeat (first | exact (Kd.C_below HR2_2.out HB.out) | (with_reducible refine Kd.C_alloc ?_ _) | (with_reducible refine Kd.C_drewN ?_ _) | (with_reducible refine Kd.C_drew ?_))); (case side2 => exact HC2_2.out); (case side3 => repeat (first | exact (Kd.C_below HR3_2.out HB.out) | (with_reducible refine Kd.C_alloc ?_ _) | (with_reducible refine Kd.C_drewN ?_ _) | (with_reducible refine Kd.C_drew ?_))); (case side4 => exact HC3_2.out); rintro e w31 ⟨rfl, hb⟩; refine ⟨_, rfl, ?_⟩; have n0_ := Aside0.mk (blk_below (g := gb238) (o := .cells #[.bool a1_0, .int .i64 a1_1, .slice A1_2 l1_2.length c1_2] 24 (0, 0)) (by (with_reducible repeat (first | refine blk_drewN ?_ _ | refine blk_drew ?_ | refine blk_alloc ?_ _)); exact BK238.out) hb); have n1_ := Aside0.mk (blk_below (g := gb239) (o := .cells #[.bool a2_0, .int .i64 a2_1, .slice A2_2 l2_2.length c2_2] 24 (0, 0)) (by (with_reducible repeat (first | refine blk_drewN ?_ _ | refine blk_drew ?_ | refine blk_alloc ?_ _)); exact BK239.out) hb); have n2_ := Aside0.mk (blk_below (g := gb240) (o := .cells #[.bool a3_0, .int .i64 a3_1, .slice A3_2 l3_2.length c3_2] 24 (0, 0)) (by (with_reducible repeat (first | refine blk_drewN ?_ _ | refine blk_drew ?_ | refine blk_alloc ?_ _)); exact BK240.out) hb); have n3_ := Aside0.mk (below_step (by repeat (first | (with_reducible first | exact HB.out | apply below_alloc | apply pw_below_drewN | apply below_drew1 | refine below_set ?_ GE238.out | refine below_set ?_ GE239.out | refine below_set ?_ GE240.out) | exact HB.out)) hb); clear BK238; clear BK239; clear BK240; clear HB; have BK238 := n0_; have BK239 := n1_; have BK240 := n2_; have HB := n3_; clear n0_ n1_ n2_ n3_; (try clear hb); (try clear hb2); (try clear hk); (try clear hi); have hcz32_0 : w31.cell? ⟨gb238, 0, none⟩ = some (.bool a1_0) := (blk_cell BK238.out 0).trans rfl; have hcz32_1 : w31.cell? ⟨gb238, 1, none⟩ = some (.int .i64 a1_1) := (blk_cell BK238.out 1).trans rfl; have hcz32_2 : w31.cell? ⟨gb238, 2, none⟩ = some (.slice A1_2 l1_2.length c1_2) := (blk_cell BK238.out 2).trans rfl; have hfz32_0 := blk_frozen BK238.out 0; have hfz32_1 := blk_frozen BK238.out 1; have hfz32_2 := blk_frozen BK238.out 2; have hcz33_0 : w31.cell? ⟨gb240, 0, none⟩ = some (.bool a3_0) := (blk_cell BK240.out 0).trans rfl; have hcz33_1 : w31.cell? ⟨gb240, 1, none⟩ = some (.int .i64 a3_1) := (blk_cell BK240.out 1).trans rfl; have hcz33_2 : w31.cell? ⟨gb240, 2, none⟩ = some (.slice A3_2 l3_2.length c3_2) := (blk_cell BK240.out 2).trans rfl; have hfz33_0 := blk_frozen BK240.out 0; have hfz33_1 := blk_frozen BK240.out 1; have hfz33_2 := blk_frozen BK240.out 2) | ((with_reducible refine gate_callee (f := 26) rfl ?_); refine goesL_ (some 53) rfl rfl Try.func26 (by kernel_rfl) rfl #[.int .i64 a0, .agg #[.bool a1_0, .int .i64 a1_1, .slice A1_2 l1_2.length c1_2], .agg #[.bool a3_0, .int .i64 a3_1, .slice A3_2 l3_2.length c3_2]] rfl (by (try simp only [List.map_toArray, List.map_cons, List.map_nil]); first | done | rfl | (simp only [List.length_drop, List.length_take]; rfl)) ?_; (with_reducible refine (cell_Compare.calls k a0 a1_0 a1_1 _ _ l1_2 a3_0 a3_1 _ _ l3_2 t250 t251 _ ?side1 ?side2 ?side3 ?side4 A11.out).mono ?_); (case side1 => repeat (first | exact (Kd.C_below HR1_2.out HB.out) | (with_reducible refine Kd.C_alloc ?_ _) | (with_reducible refine Kd.C_drewN ?_ _) | (with_reducible refine Kd.C_drew ?_))); (case side2 => exact HC1_2.out); (case side3 => repeat (first | exact (Kd.C_below HR3_2.out HB.out) | (with_reducible refine Kd.C_alloc ?_ _) | (with_reducible refine Kd.C_drewN ?_ _) | (with_reducible refine Kd.C_drew ?_))); (case side4 => exact HC3_2.out); rintro e w34 ⟨rfl, hb⟩; refine ⟨_, rfl, ?_⟩; have n0_ := Aside0.mk (blk_below (g := gb238) (o := .cells #[.bool a1_0, .int .i64 a1_1, .slice A1_2 l1_2.length c1_2] 24 (0, 0)) (by (with_reducible repeat (first | refine blk_drewN ?_ _ | refine blk_drew ?_ | refine blk_alloc ?_ _)); exact BK238.out) hb); have n1_ := Aside0.mk (blk_below (g := gb239) (o := .cells #[.bool a2_0, .int .i64 a2_1, .slice A2_2 l2_2.length c2_2] 24 (0, 0)) (by (with_reducible repeat (first | refine blk_drewN ?_ _ | refine blk_drew ?_ | refine blk_alloc ?_ _)); exact BK239.out) hb); have n2_ := Aside0.mk (blk_below (g := gb240) (o := .cells #[.bool a3_0, .int .i64 a3_1, .slice A3_2 l3_2.length c3_2] 24 (0, 0)) (by (with_reducible repeat (first | refine blk_drewN ?_ _ | refine blk_drew ?_ | refine blk_alloc ?_ _)); exact BK240.out) hb); have n3_ := Aside0.mk (below_step (by repeat (first | (with_reducible first | exact HB.out | apply below_alloc | apply pw_below_drewN | apply below_drew1 | refine below_set ?_ GE238.out | refine below_set ?_ GE239.out | refine below_set ?_ GE240.out) | exact HB.out)) hb); clear BK238; clear BK239; clear BK240; clear HB; have BK238 := n0_; have BK239 := n1_; have BK240 := n2_; have HB := n3_; clear n0_ n1_ n2_ n3_; (try clear hb); (try clear hb2); (try clear hk); (try clear hi)))
    (try simp only [Act.put, List.setIfInBounds_toArray, List.set_cons_zero, List.set_cons_succ])
    go_cut [63] (fun v63 wc => ∃ (kq : Nat) (x63_11 : Bool), v63 = .bool x63_11 ∧ Aside0 (stoalaw05_CellOrders.j0 kq t242 t243 t246 t247 t248 t249 t250 t251 x63_11 a1_0 a1_1 l1_2 a2_0 a2_1 l2_2 = some r) ∧ Aside0 (kq ≤ k) ∧ Aside0 (wc.heap[gb238]? = some (.cells #[.bool a1_0, .int .i64 a1_1, (.slice A1_2 l1_2.length c1_2)] 24 (0, 0))) ∧ Aside0 (wc.heap[gb239]? = some (.cells #[.bool a2_0, .int .i64 a2_1, (.slice A2_2 l2_2.length c2_2)] 24 (0, 0))) ∧ Aside0 (wc.heap[gb240]? = some (.cells #[.bool a3_0, .int .i64 a3_1, (.slice A3_2 l3_2.length c3_2)] 24 (0, 0))) ∧ Aside0 (Below w.heap.size w wc))
    case first =>
      have H := HC12.out
      clear HC12
      by_cases c35 : t242 = t244
      · rw [if_pos c35] at H
        have c35b0 : (t242 == t244) = true := beq_iff_eq.mpr c35
        have c35b1 : (t242 != t244) = false := bne_eq_false_iff_eq.mpr c35
        clear c35
        (first | rw [c35b0] | (simp only [i64_w, i32_w]; rw [c35b0]) | skip)
        have H' := Aside0.mk H
        clear H
        go_wp2
        go_meet
        case rel => exact ⟨_, ((t243 != t245)), (by first | rfl | (simp; done) | (simp [*]; done)), H', ⟨by first | omega | exact Nat.le_refl _⟩, ⟨by (with_reducible repeat (first | refine blk_drewN ?_ _ | refine blk_drew ?_ | refine blk_alloc ?_ _)); exact BK238.out⟩, ⟨by (with_reducible repeat (first | refine blk_drewN ?_ _ | refine blk_drew ?_ | refine blk_alloc ?_ _)); exact BK239.out⟩, ⟨by (with_reducible repeat (first | refine blk_drewN ?_ _ | refine blk_drew ?_ | refine blk_alloc ?_ _)); exact BK240.out⟩, ⟨by repeat (first | (with_reducible first | exact HB.out | apply below_alloc | apply pw_below_drewN | apply below_drew1 | refine below_set ?_ GE238.out | refine below_set ?_ GE239.out | refine below_set ?_ GE240.out) | exact HB.out)⟩⟩
      · rw [if_neg c35] at H
        have c35b0 : (t242 == t244) = false := beq_eq_false_iff_ne.mpr c35
        have c35b1 : (t242 != t244) = true := bne_iff_ne.mpr c35
        (first | rw [c35b0] | (simp only [i64_w, i32_w]; rw [c35b0]) | skip)
        have H' := Aside0.mk H
        clear H
        go_wp2
        go_meet
        case rel => exact ⟨_, (true), (by first | rfl | (simp; done) | (simp [*]; done)), H', ⟨by first | omega | exact Nat.le_refl _⟩, ⟨by (with_reducible repeat (first | refine blk_drewN ?_ _ | refine blk_drew ?_ | refine blk_alloc ?_ _)); exact BK238.out⟩, ⟨by (with_reducible repeat (first | refine blk_drewN ?_ _ | refine blk_drew ?_ | refine blk_alloc ?_ _)); exact BK239.out⟩, ⟨by (with_reducible repeat (first | refine blk_drewN ?_ _ | refine blk_drew ?_ | refine blk_alloc ?_ _)); exact BK240.out⟩, ⟨by repeat (first | (with_reducible first | exact HB.out | apply below_alloc | apply pw_below_drewN | apply below_drew1 | refine below_set ?_ GE238.out | refine below_set ?_ GE239.out | refine below_set ?_ GE240.out) | exact HB.out)⟩⟩
    case rest =>
      clear HC12
      try clear c1
      try clear c2
      try clear p2
      try clear c3
      try clear c6
      try clear c8
      try clear c9
      try clear c17
      try clear c18
      try clear c20
      try clear c26
      try clear c27
      try clear c35
      try clear c35b0
      try clear c35b1
      try clear hcz19_0
      try clear hcz19_1
      try clear hcz19_2
      try clear hcz21_0
      try clear hcz21_1
      try clear hcz21_2
      try clear hcz23_0
      try clear hcz23_1
      try clear hcz23_2
      try clear hcz24_0
      try clear hcz24_1
      try clear hcz24_2
      try clear hcz26_0
      try clear hcz26_1
      try clear hcz26_2
      try clear hcz27_0
      try clear hcz27_1
      try clear hcz27_2
      try clear hcz29_0
      try clear hcz29_1
      try clear hcz29_2
      try clear hcz30_0
      try clear hcz30_1
      try clear hcz30_2
      try clear hcz32_0
      try clear hcz32_1
      try clear hcz32_2
      try clear hcz33_0
      try clear hcz33_1
      try clear hcz33_2
      try clear hfz19_0
      try clear hfz19_1
      try clear hfz19_2
      try clear hfz21_0
      try clear hfz21_1
      try clear hfz21_2
      try clear hfz23_0
      try clear hfz23_1
      try clear hfz23_2
      try clear hfz24_0
      try clear hfz24_1
      try clear hfz24_2
      try clear hfz26_0
      try clear hfz26_1
      try clear hfz26_2
      try clear hfz27_0
      try clear hfz27_1
      try clear hfz27_2
      try clear hfz29_0
      try clear hfz29_1
      try clear hfz29_2
      try clear hfz30_0
      try clear hfz30_1
      try clear hfz30_2
      try clear hfz32_0
      try clear hfz32_1
      try clear hfz32_2
      try clear hfz33_0
      try clear hfz33_1
      try clear hfz33_2
      obtain ⟨kq, x63_11, rfl, HA, HJ11, BK238, BK239, BK240, HB⟩ := hcut
      cases kq with
      | zero => exact absurd HA.out (by simp [stoalaw05_CellOrders.j0])
      | succ kj11 =>
        have H := HA.out
        clear HA
        simp only [stoalaw05_CellOrders.j0] at H
        by_cases c36 : x63_11 = true
        · subst c36
          have H1 : (some false) = some r := by rw [if_pos rfl] at H; exact H
          clear H
          have H := H1
          clear H1
          obtain rfl := Option.some.inj H
          go_wp2
          go_ret
          exact ⟨by first | rfl | (simp [errW_none, errW_some] <;> rfl) | (simp [*, errW_none, errW_some] <;> rfl), by repeat (first | (with_reducible first | exact HB.out | apply below_alloc | apply pw_below_drewN | apply below_drew1 | refine below_set ?_ GE238.out | refine below_set ?_ GE239.out | refine below_set ?_ GE240.out) | exact HB.out)⟩
        · replace c36 := Bool.eq_false_iff.mpr c36
          subst c36
          have H1 : (if t243 = 0 then (stoalaw05_CellOrders.j1 kj11 t242 t246 t247 t248 t250 t251 (t249 != 0) a1_0 a1_1 l1_2 a2_0 a2_1 l2_2) else (stoalaw05_CellOrders.j1 kj11 t242 t246 t247 t248 t250 t251 true a1_0 a1_1 l1_2 a2_0 a2_1 l2_2)) = some r := by rw [if_neg (show ¬ (false = true) by decide)] at H; exact H
          clear H
          have H := H1
          clear H1
          have HC37 := Aside0.mk H
          clear H
          go_upto_region 10 with (fail)
          go_cut [69] (fun v69 wc => ∃ (kq : Nat) (x69_36 : Bool), v69 = .bool x69_36 ∧ Aside0 (stoalaw05_CellOrders.j1 kq t242 t246 t247 t248 t250 t251 x69_36 a1_0 a1_1 l1_2 a2_0 a2_1 l2_2 = some r) ∧ Aside0 (kq ≤ kj11) ∧ Aside0 (wc.heap[gb238]? = some (.cells #[.bool a1_0, .int .i64 a1_1, (.slice A1_2 l1_2.length c1_2)] 24 (0, 0))) ∧ Aside0 (wc.heap[gb239]? = some (.cells #[.bool a2_0, .int .i64 a2_1, (.slice A2_2 l2_2.length c2_2)] 24 (0, 0))) ∧ Aside0 (wc.heap[gb240]? = some (.cells #[.bool a3_0, .int .i64 a3_1, (.slice A3_2 l3_2.length c3_2)] 24 (0, 0))) ∧ Aside0 (Below w.heap.size w wc))
          case first =>
            have H := HC37.out
            clear HC37
            by_cases c38 : t243 = 0
            · rw [if_pos c38] at H
              have c38b0 : (t243 == 0) = true := beq_iff_eq.mpr c38
              have c38b1 : (t243 != 0) = false := bne_eq_false_iff_eq.mpr c38
              clear c38
              (first | rw [c38b0] | (simp only [i64_w, i32_w]; rw [c38b0]) | skip)
              have H' := Aside0.mk H
              clear H
              go_wp2
              go_meet
              case rel => exact ⟨_, ((t249 != 0)), (by first | rfl | (simp; done) | (simp [*]; done)), H', ⟨by have := HJ11.out; first | omega | exact Nat.le_refl _⟩, ⟨by (with_reducible repeat (first | refine blk_drewN ?_ _ | refine blk_drew ?_ | refine blk_alloc ?_ _)); exact BK238.out⟩, ⟨by (with_reducible repeat (first | refine blk_drewN ?_ _ | refine blk_drew ?_ | refine blk_alloc ?_ _)); exact BK239.out⟩, ⟨by (with_reducible repeat (first | refine blk_drewN ?_ _ | refine blk_drew ?_ | refine blk_alloc ?_ _)); exact BK240.out⟩, ⟨by repeat (first | (with_reducible first | exact HB.out | apply below_alloc | apply pw_below_drewN | apply below_drew1 | refine below_set ?_ GE238.out | refine below_set ?_ GE239.out | refine below_set ?_ GE240.out) | exact HB.out)⟩⟩
            · rw [if_neg c38] at H
              have c38b0 : (t243 == 0) = false := beq_eq_false_iff_ne.mpr c38
              have c38b1 : (t243 != 0) = true := bne_iff_ne.mpr c38
              (first | rw [c38b0] | (simp only [i64_w, i32_w]; rw [c38b0]) | skip)
              have H' := Aside0.mk H
              clear H
              go_wp2
              go_meet
              case rel => exact ⟨_, (true), (by first | rfl | (simp; done) | (simp [*]; done)), H', ⟨by have := HJ11.out; first | omega | exact Nat.le_refl _⟩, ⟨by (with_reducible repeat (first | refine blk_drewN ?_ _ | refine blk_drew ?_ | refine blk_alloc ?_ _)); exact BK238.out⟩, ⟨by (with_reducible repeat (first | refine blk_drewN ?_ _ | refine blk_drew ?_ | refine blk_alloc ?_ _)); exact BK239.out⟩, ⟨by (with_reducible repeat (first | refine blk_drewN ?_ _ | refine blk_drew ?_ | refine blk_alloc ?_ _)); exact BK240.out⟩, ⟨by repeat (first | (with_reducible first | exact HB.out | apply below_alloc | apply pw_below_drewN | apply below_drew1 | refine below_set ?_ GE238.out | refine below_set ?_ GE239.out | refine below_set ?_ GE240.out) | exact HB.out)⟩⟩
          case rest =>
            clear HC37
            try clear c1
            try clear c2
            try clear p2
            try clear c3
            try clear c6
            try clear c8
            try clear c9
            try clear c17
            try clear c18
            try clear c20
            try clear c26
            try clear c27
            try clear c35
            try clear c35b0
            try clear c35b1
            try clear c36
            try clear c38
            try clear c38b0
            try clear c38b1
            try clear hcz19_0
            try clear hcz19_1
            try clear hcz19_2
            try clear hcz21_0
            try clear hcz21_1
            try clear hcz21_2
            try clear hcz23_0
            try clear hcz23_1
            try clear hcz23_2
            try clear hcz24_0
            try clear hcz24_1
            try clear hcz24_2
            try clear hcz26_0
            try clear hcz26_1
            try clear hcz26_2
            try clear hcz27_0
            try clear hcz27_1
            try clear hcz27_2
            try clear hcz29_0
            try clear hcz29_1
            try clear hcz29_2
            try clear hcz30_0
            try clear hcz30_1
            try clear hcz30_2
            try clear hcz32_0
            try clear hcz32_1
            try clear hcz32_2
            try clear hcz33_0
            try clear hcz33_1
            try clear hcz33_2
            try clear hfz19_0
            try clear hfz19_1
            try clear hfz19_2
            try clear hfz21_0
            try clear hfz21_1
            try clear hfz21_2
            try clear hfz23_0
            try clear hfz23_1
            try clear hfz23_2
            try clear hfz24_0
            try clear hfz24_1
            try clear hfz24_2
            try clear hfz26_0
            try clear hfz26_1
            try clear hfz26_2
            try clear hfz27_0
            try clear hfz27_1
            try clear hfz27_2
            try clear hfz29_0
            try clear hfz29_1
            try clear hfz29_2
            try clear hfz30_0
            try clear hfz30_1
            try clear hfz30_2
            try clear hfz32_0
            try clear hfz32_1
            try clear hfz32_2
            try clear hfz33_0
            try clear hfz33_1
            try clear hfz33_2
            try clear p2
            obtain ⟨kq, x69_36, rfl, HA, HJ36, BK238, BK239, BK240, HB⟩ := hcut
            cases kq with
            | zero => exact absurd HA.out (by simp [stoalaw05_CellOrders.j1])
            | succ kj36 =>
              have H := HA.out
              clear HA
              simp only [stoalaw05_CellOrders.j1] at H
              by_cases c39 : x69_36 = true
              · subst c39
                have H1 : (some true) = some r := by rw [if_pos rfl] at H; exact H
                clear H
                have H := H1
                clear H1
                obtain rfl := Option.some.inj H
                go_wp2
                go_ret
                exact ⟨by first | rfl | (simp [errW_none, errW_some] <;> rfl) | (simp [*, errW_none, errW_some] <;> rfl), by repeat (first | (with_reducible first | exact HB.out | apply below_alloc | apply pw_below_drewN | apply below_drew1 | refine below_set ?_ GE238.out | refine below_set ?_ GE239.out | refine below_set ?_ GE240.out) | exact HB.out)⟩
              · replace c39 := Bool.eq_false_iff.mpr c39
                subst c39
                have H1 : (if t247 = 0 then (if t251 = 0 then (if t246 = (wrap64 (-t242)) then ((stoaref05_Alike.f kj36 a1_0 a1_1 l1_2 a2_0 a2_1 l2_2).bind fun t252 => (if ((t242 == 0) != t252) = true then (some false) else (if t242 > 0 then (some true) else (if t248 > 0 then (some true) else (some (decide (t250 ≤ 0))))))) else (some false)) else (some false)) else (some false)) = some r := by rw [if_neg (show ¬ (false = true) by decide)] at H; exact H
                clear H
                have H := H1
                clear H1
                by_cases c40 : t247 = 0
                · rw [if_pos c40] at H
                  have c40b0 : (t247 == 0) = true := beq_iff_eq.mpr c40
                  have c40b1 : (t247 != 0) = false := bne_eq_false_iff_eq.mpr c40
                  clear c40
                  by_cases c41 : t251 = 0
                  · rw [if_pos c41] at H
                    have c41b0 : (t251 == 0) = true := beq_iff_eq.mpr c41
                    have c41b1 : (t251 != 0) = false := bne_eq_false_iff_eq.mpr c41
                    clear c41
                    by_cases c42 : t246 = (wrap64 (-t242))
                    · rw [if_pos c42] at H
                      have c42b0 : (t246 == (wrap64 (-t242))) = true := beq_iff_eq.mpr c42
                      have c42b1 : (t246 != (wrap64 (-t242))) = false := bne_eq_false_iff_eq.mpr c42
                      clear c42
                      replace H := Option.bind_eq_some_iff.mp H
                      obtain ⟨t252, A430, H⟩ := H
                      replace H : (if ((t242 == 0) != t252) = true then (some false) else (if t242 > 0 then (some true) else (if t248 > 0 then (some true) else (some (decide (t250 ≤ 0)))))) = some r := H
                      have A43 := Aside0.mk A430
                      clear A430
                      by_cases c44 : ((t242 == 0) != t252) = true
                      · rw [if_pos c44] at H
                        have c44b0 : ((t242 == 0) != t252) = true := c44
                        (try (have c44b1 : decide ((t242 == 0) = t252) = false := by simpa using c44))
                        (try (have c44b2 : ((t242 == 0) == t252) = false := by simpa using c44))
                        (try (have c44b3 : ¬ ((t242 == 0) = t252) := by simpa using c44))
                        clear c44
                        obtain rfl := Option.some.inj H
                        have hnb45 := NB238_239.out
                        have hnc45 := NB239_238.out
                        have hnb46 := NB238_240.out
                        have hnc46 := NB240_238.out
                        have hcz47_0 : wc.cell? ⟨gb238, 0, none⟩ = some (.bool a1_0) := (blk_cell BK238.out 0).trans rfl
                        have hcz47_1 : wc.cell? ⟨gb238, 1, none⟩ = some (.int .i64 a1_1) := (blk_cell BK238.out 1).trans rfl
                        have hcz47_2 : wc.cell? ⟨gb238, 2, none⟩ = some (.slice A1_2 l1_2.length c1_2) := (blk_cell BK238.out 2).trans rfl
                        have hfz47_0 := blk_frozen BK238.out 0
                        have hfz47_1 := blk_frozen BK238.out 1
                        have hfz47_2 := blk_frozen BK238.out 2
                        have hnb48 := NB239_240.out
                        have hnc48 := NB240_239.out
                        have hcz49_0 : wc.cell? ⟨gb239, 0, none⟩ = some (.bool a2_0) := (blk_cell BK239.out 0).trans rfl
                        have hcz49_1 : wc.cell? ⟨gb239, 1, none⟩ = some (.int .i64 a2_1) := (blk_cell BK239.out 1).trans rfl
                        have hcz49_2 : wc.cell? ⟨gb239, 2, none⟩ = some (.slice A2_2 l2_2.length c2_2) := (blk_cell BK239.out 2).trans rfl
                        have hfz49_0 := blk_frozen BK239.out 0
                        have hfz49_1 := blk_frozen BK239.out 1
                        have hfz49_2 := blk_frozen BK239.out 2
                        go_wp2_with (first | (go_at_call 14; (with_reducible refine (stoaref05_Alike.calls kj36 a1_0 a1_1 _ _ l1_2 a2_0 a2_1 _ _ l2_2 t252 _ ?side1 ?side2 ?side3 ?side4 A43.out).mono ?_); (case side1 => repeat (first | exact (Kd.C_below HR1_2.out HB.out) | (with_reducible refine Kd.C_alloc ?_ _) | (with_reducible refine Kd.C_drewN ?_ _) | (with_reducible refine Kd.C_drew ?_))); (case side2 => exact HC1_2.out); (case side3 => repeat (first | exact (Kd.C_below HR2_2.out HB.out) | (with_reducible refine Kd.C_alloc ?_ _) | (with_reducible refine Kd.C_drewN ?_ _) | (with_reducible refine Kd.C_drew ?_))); (case side4 => exact HC2_2.out); rintro e w50 ⟨rfl, hb⟩; have n0_ := Aside0.mk (blk_below (g := gb238) (o := .cells #[.bool a1_0, .int .i64 a1_1, .slice A1_2 l1_2.length c1_2] 24 (0, 0)) (by (with_reducible repeat (first | refine blk_drewN ?_ _ | refine blk_drew ?_ | refine blk_alloc ?_ _)); exact BK238.out) hb); have n1_ := Aside0.mk (blk_below (g := gb239) (o := .cells #[.bool a2_0, .int .i64 a2_1, .slice A2_2 l2_2.length c2_2] 24 (0, 0)) (by (with_reducible repeat (first | refine blk_drewN ?_ _ | refine blk_drew ?_ | refine blk_alloc ?_ _)); exact BK239.out) hb); have n2_ := Aside0.mk (blk_below (g := gb240) (o := .cells #[.bool a3_0, .int .i64 a3_1, .slice A3_2 l3_2.length c3_2] 24 (0, 0)) (by (with_reducible repeat (first | refine blk_drewN ?_ _ | refine blk_drew ?_ | refine blk_alloc ?_ _)); exact BK240.out) hb); have n3_ := Aside0.mk (below_step (by repeat (first | (with_reducible first | exact HB.out | apply below_alloc | apply pw_below_drewN | apply below_drew1 | refine below_set ?_ GE238.out | refine below_set ?_ GE239.out | refine below_set ?_ GE240.out) | exact HB.out)) hb); clear BK238; clear BK239; clear BK240; clear HB; have BK238 := n0_; have BK239 := n1_; have BK240 := n2_; have HB := n3_; clear n0_ n1_ n2_ n3_; (try clear hb); (try clear hb2); (try clear hk); (try clear hi)))
                        go_ret
                        exact ⟨by first | rfl | (simp [errW_none, errW_some] <;> rfl) | (simp [*, errW_none, errW_some] <;> rfl), by repeat (first | (with_reducible first | exact HB.out | apply below_alloc | apply pw_below_drewN | apply below_drew1 | refine below_set ?_ GE238.out | refine below_set ?_ GE239.out | refine below_set ?_ GE240.out) | exact HB.out)⟩
                      · rw [if_neg c44] at H
                        have c44b0 : ((t242 == 0) != t252) = false := by simpa using c44
                        (try (have c44b1 : decide ((t242 == 0) = t252) = true := by simpa using c44))
                        (try (have c44b2 : ((t242 == 0) == t252) = true := by simpa using c44))
                        clear c44
                        by_cases c51 : t242 > 0
                        · rw [if_pos c51] at H
                          have c51b0 : decide (0 < t242) = true := decide_eq_true c51
                          clear c51
                          obtain rfl := Option.some.inj H
                          have hnb52 := NB238_239.out
                          have hnc52 := NB239_238.out
                          have hnb53 := NB238_240.out
                          have hnc53 := NB240_238.out
                          have hcz54_0 : wc.cell? ⟨gb238, 0, none⟩ = some (.bool a1_0) := (blk_cell BK238.out 0).trans rfl
                          have hcz54_1 : wc.cell? ⟨gb238, 1, none⟩ = some (.int .i64 a1_1) := (blk_cell BK238.out 1).trans rfl
                          have hcz54_2 : wc.cell? ⟨gb238, 2, none⟩ = some (.slice A1_2 l1_2.length c1_2) := (blk_cell BK238.out 2).trans rfl
                          have hfz54_0 := blk_frozen BK238.out 0
                          have hfz54_1 := blk_frozen BK238.out 1
                          have hfz54_2 := blk_frozen BK238.out 2
                          have hnb55 := NB239_240.out
                          have hnc55 := NB240_239.out
                          have hcz56_0 : wc.cell? ⟨gb239, 0, none⟩ = some (.bool a2_0) := (blk_cell BK239.out 0).trans rfl
                          have hcz56_1 : wc.cell? ⟨gb239, 1, none⟩ = some (.int .i64 a2_1) := (blk_cell BK239.out 1).trans rfl
                          have hcz56_2 : wc.cell? ⟨gb239, 2, none⟩ = some (.slice A2_2 l2_2.length c2_2) := (blk_cell BK239.out 2).trans rfl
                          have hfz56_0 := blk_frozen BK239.out 0
                          have hfz56_1 := blk_frozen BK239.out 1
                          have hfz56_2 := blk_frozen BK239.out 2
                          go_wp2_with (first | (go_at_call 14; (with_reducible refine (stoaref05_Alike.calls kj36 a1_0 a1_1 _ _ l1_2 a2_0 a2_1 _ _ l2_2 t252 _ ?side1 ?side2 ?side3 ?side4 A43.out).mono ?_); (case side1 => repeat (first | exact (Kd.C_below HR1_2.out HB.out) | (with_reducible refine Kd.C_alloc ?_ _) | (with_reducible refine Kd.C_drewN ?_ _) | (with_reducible refine Kd.C_drew ?_))); (case side2 => exact HC1_2.out); (case side3 => repeat (first | exact (Kd.C_below HR2_2.out HB.out) | (with_reducible refine Kd.C_alloc ?_ _) | (with_reducible refine Kd.C_drewN ?_ _) | (with_reducible refine Kd.C_drew ?_))); (case side4 => exact HC2_2.out); rintro e w57 ⟨rfl, hb⟩; have n0_ := Aside0.mk (blk_below (g := gb238) (o := .cells #[.bool a1_0, .int .i64 a1_1, .slice A1_2 l1_2.length c1_2] 24 (0, 0)) (by (with_reducible repeat (first | refine blk_drewN ?_ _ | refine blk_drew ?_ | refine blk_alloc ?_ _)); exact BK238.out) hb); have n1_ := Aside0.mk (blk_below (g := gb239) (o := .cells #[.bool a2_0, .int .i64 a2_1, .slice A2_2 l2_2.length c2_2] 24 (0, 0)) (by (with_reducible repeat (first | refine blk_drewN ?_ _ | refine blk_drew ?_ | refine blk_alloc ?_ _)); exact BK239.out) hb); have n2_ := Aside0.mk (blk_below (g := gb240) (o := .cells #[.bool a3_0, .int .i64 a3_1, .slice A3_2 l3_2.length c3_2] 24 (0, 0)) (by (with_reducible repeat (first | refine blk_drewN ?_ _ | refine blk_drew ?_ | refine blk_alloc ?_ _)); exact BK240.out) hb); have n3_ := Aside0.mk (below_step (by repeat (first | (with_reducible first | exact HB.out | apply below_alloc | apply pw_below_drewN | apply below_drew1 | refine below_set ?_ GE238.out | refine below_set ?_ GE239.out | refine below_set ?_ GE240.out) | exact HB.out)) hb); clear BK238; clear BK239; clear BK240; clear HB; have BK238 := n0_; have BK239 := n1_; have BK240 := n2_; have HB := n3_; clear n0_ n1_ n2_ n3_; (try clear hb); (try clear hb2); (try clear hk); (try clear hi)))
                          go_ret
                          exact ⟨by first | rfl | (simp [errW_none, errW_some] <;> rfl) | (simp [*, errW_none, errW_some] <;> rfl), by repeat (first | (with_reducible first | exact HB.out | apply below_alloc | apply pw_below_drewN | apply below_drew1 | refine below_set ?_ GE238.out | refine below_set ?_ GE239.out | refine below_set ?_ GE240.out) | exact HB.out)⟩
                        · rw [if_neg c51] at H
                          have c51b0 : decide (0 < t242) = false := decide_eq_false c51
                          clear c51
                          by_cases c58 : t248 > 0
                          · rw [if_pos c58] at H
                            have c58b0 : decide (0 < t248) = true := decide_eq_true c58
                            clear c58
                            obtain rfl := Option.some.inj H
                            have hnb59 := NB238_239.out
                            have hnc59 := NB239_238.out
                            have hnb60 := NB238_240.out
                            have hnc60 := NB240_238.out
                            have hcz61_0 : wc.cell? ⟨gb238, 0, none⟩ = some (.bool a1_0) := (blk_cell BK238.out 0).trans rfl
                            have hcz61_1 : wc.cell? ⟨gb238, 1, none⟩ = some (.int .i64 a1_1) := (blk_cell BK238.out 1).trans rfl
                            have hcz61_2 : wc.cell? ⟨gb238, 2, none⟩ = some (.slice A1_2 l1_2.length c1_2) := (blk_cell BK238.out 2).trans rfl
                            have hfz61_0 := blk_frozen BK238.out 0
                            have hfz61_1 := blk_frozen BK238.out 1
                            have hfz61_2 := blk_frozen BK238.out 2
                            have hnb62 := NB239_240.out
                            have hnc62 := NB240_239.out
                            have hcz63_0 : wc.cell? ⟨gb239, 0, none⟩ = some (.bool a2_0) := (blk_cell BK239.out 0).trans rfl
                            have hcz63_1 : wc.cell? ⟨gb239, 1, none⟩ = some (.int .i64 a2_1) := (blk_cell BK239.out 1).trans rfl
                            have hcz63_2 : wc.cell? ⟨gb239, 2, none⟩ = some (.slice A2_2 l2_2.length c2_2) := (blk_cell BK239.out 2).trans rfl
                            have hfz63_0 := blk_frozen BK239.out 0
                            have hfz63_1 := blk_frozen BK239.out 1
                            have hfz63_2 := blk_frozen BK239.out 2
                            go_wp2_with (first | (go_at_call 14; (with_reducible refine (stoaref05_Alike.calls kj36 a1_0 a1_1 _ _ l1_2 a2_0 a2_1 _ _ l2_2 t252 _ ?side1 ?side2 ?side3 ?side4 A43.out).mono ?_); (case side1 => repeat (first | exact (Kd.C_below HR1_2.out HB.out) | (with_reducible refine Kd.C_alloc ?_ _) | (with_reducible refine Kd.C_drewN ?_ _) | (with_reducible refine Kd.C_drew ?_))); (case side2 => exact HC1_2.out); (case side3 => repeat (first | exact (Kd.C_below HR2_2.out HB.out) | (with_reducible refine Kd.C_alloc ?_ _) | (with_reducible refine Kd.C_drewN ?_ _) | (with_reducible refine Kd.C_drew ?_))); (case side4 => exact HC2_2.out); rintro e w64 ⟨rfl, hb⟩; have n0_ := Aside0.mk (blk_below (g := gb238) (o := .cells #[.bool a1_0, .int .i64 a1_1, .slice A1_2 l1_2.length c1_2] 24 (0, 0)) (by (with_reducible repeat (first | refine blk_drewN ?_ _ | refine blk_drew ?_ | refine blk_alloc ?_ _)); exact BK238.out) hb); have n1_ := Aside0.mk (blk_below (g := gb239) (o := .cells #[.bool a2_0, .int .i64 a2_1, .slice A2_2 l2_2.length c2_2] 24 (0, 0)) (by (with_reducible repeat (first | refine blk_drewN ?_ _ | refine blk_drew ?_ | refine blk_alloc ?_ _)); exact BK239.out) hb); have n2_ := Aside0.mk (blk_below (g := gb240) (o := .cells #[.bool a3_0, .int .i64 a3_1, .slice A3_2 l3_2.length c3_2] 24 (0, 0)) (by (with_reducible repeat (first | refine blk_drewN ?_ _ | refine blk_drew ?_ | refine blk_alloc ?_ _)); exact BK240.out) hb); have n3_ := Aside0.mk (below_step (by repeat (first | (with_reducible first | exact HB.out | apply below_alloc | apply pw_below_drewN | apply below_drew1 | refine below_set ?_ GE238.out | refine below_set ?_ GE239.out | refine below_set ?_ GE240.out) | exact HB.out)) hb); clear BK238; clear BK239; clear BK240; clear HB; have BK238 := n0_; have BK239 := n1_; have BK240 := n2_; have HB := n3_; clear n0_ n1_ n2_ n3_; (try clear hb); (try clear hb2); (try clear hk); (try clear hi)))
                            go_ret
                            exact ⟨by first | rfl | (simp [errW_none, errW_some] <;> rfl) | (simp [*, errW_none, errW_some] <;> rfl), by repeat (first | (with_reducible first | exact HB.out | apply below_alloc | apply pw_below_drewN | apply below_drew1 | refine below_set ?_ GE238.out | refine below_set ?_ GE239.out | refine below_set ?_ GE240.out) | exact HB.out)⟩
                          · rw [if_neg c58] at H
                            have c58b0 : decide (0 < t248) = false := decide_eq_false c58
                            clear c58
                            obtain rfl := Option.some.inj H
                            have hnb65 := NB238_239.out
                            have hnc65 := NB239_238.out
                            have hnb66 := NB238_240.out
                            have hnc66 := NB240_238.out
                            have hcz67_0 : wc.cell? ⟨gb238, 0, none⟩ = some (.bool a1_0) := (blk_cell BK238.out 0).trans rfl
                            have hcz67_1 : wc.cell? ⟨gb238, 1, none⟩ = some (.int .i64 a1_1) := (blk_cell BK238.out 1).trans rfl
                            have hcz67_2 : wc.cell? ⟨gb238, 2, none⟩ = some (.slice A1_2 l1_2.length c1_2) := (blk_cell BK238.out 2).trans rfl
                            have hfz67_0 := blk_frozen BK238.out 0
                            have hfz67_1 := blk_frozen BK238.out 1
                            have hfz67_2 := blk_frozen BK238.out 2
                            have hnb68 := NB239_240.out
                            have hnc68 := NB240_239.out
                            have hcz69_0 : wc.cell? ⟨gb239, 0, none⟩ = some (.bool a2_0) := (blk_cell BK239.out 0).trans rfl
                            have hcz69_1 : wc.cell? ⟨gb239, 1, none⟩ = some (.int .i64 a2_1) := (blk_cell BK239.out 1).trans rfl
                            have hcz69_2 : wc.cell? ⟨gb239, 2, none⟩ = some (.slice A2_2 l2_2.length c2_2) := (blk_cell BK239.out 2).trans rfl
                            have hfz69_0 := blk_frozen BK239.out 0
                            have hfz69_1 := blk_frozen BK239.out 1
                            have hfz69_2 := blk_frozen BK239.out 2
                            go_wp2_with (first | (go_at_call 14; (with_reducible refine (stoaref05_Alike.calls kj36 a1_0 a1_1 _ _ l1_2 a2_0 a2_1 _ _ l2_2 t252 _ ?side1 ?side2 ?side3 ?side4 A43.out).mono ?_); (case side1 => repeat (first | exact (Kd.C_below HR1_2.out HB.out) | (with_reducible refine Kd.C_alloc ?_ _) | (with_reducible refine Kd.C_drewN ?_ _) | (with_reducible refine Kd.C_drew ?_))); (case side2 => exact HC1_2.out); (case side3 => repeat (first | exact (Kd.C_below HR2_2.out HB.out) | (with_reducible refine Kd.C_alloc ?_ _) | (with_reducible refine Kd.C_drewN ?_ _) | (with_reducible refine Kd.C_drew ?_))); (case side4 => exact HC2_2.out); rintro e w70 ⟨rfl, hb⟩; have n0_ := Aside0.mk (blk_below (g := gb238) (o := .cells #[.bool a1_0, .int .i64 a1_1, .slice A1_2 l1_2.length c1_2] 24 (0, 0)) (by (with_reducible repeat (first | refine blk_drewN ?_ _ | refine blk_drew ?_ | refine blk_alloc ?_ _)); exact BK238.out) hb); have n1_ := Aside0.mk (blk_below (g := gb239) (o := .cells #[.bool a2_0, .int .i64 a2_1, .slice A2_2 l2_2.length c2_2] 24 (0, 0)) (by (with_reducible repeat (first | refine blk_drewN ?_ _ | refine blk_drew ?_ | refine blk_alloc ?_ _)); exact BK239.out) hb); have n2_ := Aside0.mk (blk_below (g := gb240) (o := .cells #[.bool a3_0, .int .i64 a3_1, .slice A3_2 l3_2.length c3_2] 24 (0, 0)) (by (with_reducible repeat (first | refine blk_drewN ?_ _ | refine blk_drew ?_ | refine blk_alloc ?_ _)); exact BK240.out) hb); have n3_ := Aside0.mk (below_step (by repeat (first | (with_reducible first | exact HB.out | apply below_alloc | apply pw_below_drewN | apply below_drew1 | refine below_set ?_ GE238.out | refine below_set ?_ GE239.out | refine below_set ?_ GE240.out) | exact HB.out)) hb); clear BK238; clear BK239; clear BK240; clear HB; have BK238 := n0_; have BK239 := n1_; have BK240 := n2_; have HB := n3_; clear n0_ n1_ n2_ n3_; (try clear hb); (try clear hb2); (try clear hk); (try clear hi)))
                            go_ret
                            exact ⟨by first | rfl | (simp [errW_none, errW_some] <;> rfl) | (simp [*, errW_none, errW_some] <;> rfl), by repeat (first | (with_reducible first | exact HB.out | apply below_alloc | apply pw_below_drewN | apply below_drew1 | refine below_set ?_ GE238.out | refine below_set ?_ GE239.out | refine below_set ?_ GE240.out) | exact HB.out)⟩
                    · rw [if_neg c42] at H
                      have c42b0 : (t246 == (wrap64 (-t242))) = false := beq_eq_false_iff_ne.mpr c42
                      have c42b1 : (t246 != (wrap64 (-t242))) = true := bne_iff_ne.mpr c42
                      obtain rfl := Option.some.inj H
                      go_wp2
                      go_ret
                      exact ⟨by first | rfl | (simp [errW_none, errW_some] <;> rfl) | (simp [*, errW_none, errW_some] <;> rfl), by repeat (first | (with_reducible first | exact HB.out | apply below_alloc | apply pw_below_drewN | apply below_drew1 | refine below_set ?_ GE238.out | refine below_set ?_ GE239.out | refine below_set ?_ GE240.out) | exact HB.out)⟩
                  · rw [if_neg c41] at H
                    have c41b0 : (t251 == 0) = false := beq_eq_false_iff_ne.mpr c41
                    have c41b1 : (t251 != 0) = true := bne_iff_ne.mpr c41
                    obtain rfl := Option.some.inj H
                    go_wp2
                    go_ret
                    exact ⟨by first | rfl | (simp [errW_none, errW_some] <;> rfl) | (simp [*, errW_none, errW_some] <;> rfl), by repeat (first | (with_reducible first | exact HB.out | apply below_alloc | apply pw_below_drewN | apply below_drew1 | refine below_set ?_ GE238.out | refine below_set ?_ GE239.out | refine below_set ?_ GE240.out) | exact HB.out)⟩
                · rw [if_neg c40] at H
                  have c40b0 : (t247 == 0) = false := beq_eq_false_iff_ne.mpr c40
                  have c40b1 : (t247 != 0) = true := bne_iff_ne.mpr c40
                  obtain rfl := Option.some.inj H
                  go_wp2
                  go_ret
                  exact ⟨by first | rfl | (simp [errW_none, errW_some] <;> rfl) | (simp [*, errW_none, errW_some] <;> rfl), by repeat (first | (with_reducible first | exact HB.out | apply below_alloc | apply pw_below_drewN | apply below_drew1 | refine below_set ?_ GE238.out | refine below_set ?_ GE239.out | refine below_set ?_ GE240.out) | exact HB.out)⟩
  · replace c6 := Bool.eq_false_iff.mpr c6
    subst c6
    have H1 : (some false) = some r := by rw [if_neg (show ¬ (false = true) by decide)] at H; exact H
    clear H
    have H := H1
    clear H1
    obtain rfl := Option.some.inj H
    go_enter Try.func8, Try.ntmps8
    go_wp2_with (first | ((with_reducible refine gate_dst (N := 5) rfl ?_); refine box_event ?hg (N := 5) ?hd (cs := #[.bool a1_0, .int .i64 a1_1, .slice A1_2 l1_2.length c1_2]) (t := 24) ?hr ?_; (case hd => rfl); (case hg => rfl); (case hr => first | (go_simp; done) | (go_simp; rfl)); intro gb238 hg w71 hbox hb; have n0_ := Aside0.mk (below_step (by repeat (first | (with_reducible first | exact HB.out | apply below_alloc | apply pw_below_drewN | apply below_drew1) | exact HB.out)) hb); have n1_ := Aside0.mk (hbox); have n2_ := Aside0.mk ((by rw [hg]; exact (below_size (by repeat (first | (with_reducible first | exact HB.out | apply below_alloc | apply pw_below_drewN | apply below_drew1) | exact HB.out))) : w.heap.size ≤ gb238)); have n3_ := Aside0.mk ((by rw [hg]; exact (below_size (by repeat (first | (with_reducible first | exact HB.out | apply below_alloc | apply pw_below_drewN | apply below_drew1) | exact HB.out))) : w.heap.size ≤ gb238)); clear HB; have HB := n0_; have BK238 := n1_; have GW238 := n2_; have GE238 := n3_; clear n0_ n1_ n2_ n3_; clear hb hbox hg) | ((with_reducible refine gate_dst (N := 6) rfl ?_); refine box_event ?hg (N := 6) ?hd (cs := #[.bool a2_0, .int .i64 a2_1, .slice A2_2 l2_2.length c2_2]) (t := 24) ?hr ?_; (case hd => rfl); (case hg => rfl); (case hr => first | (go_simp; done) | (go_simp; rfl)); intro gb239 hg w72 hbox hb; have n0_ := Aside0.mk (blk_below (g := gb238) (o := .cells #[.bool a1_0, .int .i64 a1_1, .slice A1_2 l1_2.length c1_2] 24 (0, 0)) (by (with_reducible repeat (first | refine blk_drewN ?_ _ | refine blk_drew ?_ | refine blk_alloc ?_ _)); exact BK238.out) hb); have n1_ := Aside0.mk (below_step (by repeat (first | (with_reducible first | exact HB.out | apply below_alloc | apply pw_below_drewN | apply below_drew1 | refine below_set ?_ GE238.out) | exact HB.out)) hb); have n2_ := Aside0.mk (hbox); have n3_ := Aside0.mk ((by rw [hg]; exact (below_size (by repeat (first | (with_reducible first | exact HB.out | apply below_alloc | apply pw_below_drewN | apply below_drew1 | refine below_set ?_ GE238.out) | exact HB.out))) : w.heap.size ≤ gb239)); have n4_ := Aside0.mk ((by rw [hg]; exact (below_size (by repeat (first | (with_reducible first | exact HB.out | apply below_alloc | apply pw_below_drewN | apply below_drew1 | refine below_set ?_ GE238.out) | exact HB.out))) : w.heap.size ≤ gb239)); have n5_ := Aside0.mk ((by rw [hg]; exact Nat.ne_of_lt (blk_lt (g := gb238) (o := .cells #[.bool a1_0, .int .i64 a1_1, .slice A1_2 l1_2.length c1_2] 24 (0, 0)) (by (with_reducible repeat (first | refine blk_drewN ?_ _ | refine blk_drew ?_ | refine blk_alloc ?_ _)); exact BK238.out)) : gb238 ≠ gb239)); have n6_ := Aside0.mk ((by rw [hg]; exact Nat.ne_of_gt (blk_lt (g := gb238) (o := .cells #[.bool a1_0, .int .i64 a1_1, .slice A1_2 l1_2.length c1_2] 24 (0, 0)) (by (with_reducible repeat (first | refine blk_drewN ?_ _ | refine blk_drew ?_ | refine blk_alloc ?_ _)); exact BK238.out)) : gb239 ≠ gb238)); clear BK238; clear HB; have BK238 := n0_; have HB := n1_; have BK239 := n2_; have GW239 := n3_; have GE239 := n4_; have NB238_239 := n5_; have NB239_238 := n6_; clear n0_ n1_ n2_ n3_ n4_ n5_ n6_; clear hb hbox hg) | ((with_reducible refine gate_dst (N := 7) rfl ?_); refine box_event ?hg (N := 7) ?hd (cs := #[.bool a3_0, .int .i64 a3_1, .slice A3_2 l3_2.length c3_2]) (t := 24) ?hr ?_; (case hd => rfl); (case hg => rfl); (case hr => first | (go_simp; done) | (go_simp; rfl)); intro gb240 hg w73 hbox hb; have n0_ := Aside0.mk (blk_below (g := gb238) (o := .cells #[.bool a1_0, .int .i64 a1_1, .slice A1_2 l1_2.length c1_2] 24 (0, 0)) (by (with_reducible repeat (first | refine blk_drewN ?_ _ | refine blk_drew ?_ | refine blk_alloc ?_ _)); exact BK238.out) hb); have n1_ := Aside0.mk (blk_below (g := gb239) (o := .cells #[.bool a2_0, .int .i64 a2_1, .slice A2_2 l2_2.length c2_2] 24 (0, 0)) (by (with_reducible repeat (first | refine blk_drewN ?_ _ | refine blk_drew ?_ | refine blk_alloc ?_ _)); exact BK239.out) hb); have n2_ := Aside0.mk (below_step (by repeat (first | (with_reducible first | exact HB.out | apply below_alloc | apply pw_below_drewN | apply below_drew1 | refine below_set ?_ GE238.out | refine below_set ?_ GE239.out) | exact HB.out)) hb); have n3_ := Aside0.mk (hbox); have n4_ := Aside0.mk ((by rw [hg]; exact (below_size (by repeat (first | (with_reducible first | exact HB.out | apply below_alloc | apply pw_below_drewN | apply below_drew1 | refine below_set ?_ GE238.out | refine below_set ?_ GE239.out) | exact HB.out))) : w.heap.size ≤ gb240)); have n5_ := Aside0.mk ((by rw [hg]; exact (below_size (by repeat (first | (with_reducible first | exact HB.out | apply below_alloc | apply pw_below_drewN | apply below_drew1 | refine below_set ?_ GE238.out | refine below_set ?_ GE239.out) | exact HB.out))) : w.heap.size ≤ gb240)); have n6_ := Aside0.mk ((by rw [hg]; exact Nat.ne_of_lt (blk_lt (g := gb238) (o := .cells #[.bool a1_0, .int .i64 a1_1, .slice A1_2 l1_2.length c1_2] 24 (0, 0)) (by (with_reducible repeat (first | refine blk_drewN ?_ _ | refine blk_drew ?_ | refine blk_alloc ?_ _)); exact BK238.out)) : gb238 ≠ gb240)); have n7_ := Aside0.mk ((by rw [hg]; exact Nat.ne_of_gt (blk_lt (g := gb238) (o := .cells #[.bool a1_0, .int .i64 a1_1, .slice A1_2 l1_2.length c1_2] 24 (0, 0)) (by (with_reducible repeat (first | refine blk_drewN ?_ _ | refine blk_drew ?_ | refine blk_alloc ?_ _)); exact BK238.out)) : gb240 ≠ gb238)); have n8_ := Aside0.mk ((by rw [hg]; exact Nat.ne_of_lt (blk_lt (g := gb239) (o := .cells #[.bool a2_0, .int .i64 a2_1, .slice A2_2 l2_2.length c2_2] 24 (0, 0)) (by (with_reducible repeat (first | refine blk_drewN ?_ _ | refine blk_drew ?_ | refine blk_alloc ?_ _)); exact BK239.out)) : gb239 ≠ gb240)); have n9_ := Aside0.mk ((by rw [hg]; exact Nat.ne_of_gt (blk_lt (g := gb239) (o := .cells #[.bool a2_0, .int .i64 a2_1, .slice A2_2 l2_2.length c2_2] 24 (0, 0)) (by (with_reducible repeat (first | refine blk_drewN ?_ _ | refine blk_drew ?_ | refine blk_alloc ?_ _)); exact BK239.out)) : gb240 ≠ gb239)); clear BK238; clear BK239; clear HB; have BK238 := n0_; have BK239 := n1_; have HB := n2_; have BK240 := n3_; have GW240 := n4_; have GE240 := n5_; have NB238_240 := n6_; have NB240_238 := n7_; have NB239_240 := n8_; have NB240_239 := n9_; clear n0_ n1_ n2_ n3_ n4_ n5_ n6_ n7_ n8_ n9_; clear hb hbox hg) | ((with_reducible refine gate_callee (f := 9) rfl ?_); refine goesL_ (some 19) rfl rfl Try.func9 (by kernel_rfl) rfl #[] rfl (by (try simp only [List.map_toArray, List.map_cons, List.map_nil]); first | done | rfl | (simp only [List.length_drop, List.length_take]; rfl)) ?_; (with_reducible refine (stoalaw05_alive.calls k  false _ A5.out).mono ?_); rintro e w74 ⟨rfl, hb⟩; refine ⟨_, rfl, ?_⟩; have n0_ := Aside0.mk (blk_below (g := gb238) (o := .cells #[.bool a1_0, .int .i64 a1_1, .slice A1_2 l1_2.length c1_2] 24 (0, 0)) (by (with_reducible repeat (first | refine blk_drewN ?_ _ | refine blk_drew ?_ | refine blk_alloc ?_ _)); exact BK238.out) hb); have n1_ := Aside0.mk (blk_below (g := gb239) (o := .cells #[.bool a2_0, .int .i64 a2_1, .slice A2_2 l2_2.length c2_2] 24 (0, 0)) (by (with_reducible repeat (first | refine blk_drewN ?_ _ | refine blk_drew ?_ | refine blk_alloc ?_ _)); exact BK239.out) hb); have n2_ := Aside0.mk (blk_below (g := gb240) (o := .cells #[.bool a3_0, .int .i64 a3_1, .slice A3_2 l3_2.length c3_2] 24 (0, 0)) (by (with_reducible repeat (first | refine blk_drewN ?_ _ | refine blk_drew ?_ | refine blk_alloc ?_ _)); exact BK240.out) hb); have n3_ := Aside0.mk (below_step (by repeat (first | (with_reducible first | exact HB.out | apply below_alloc | apply pw_below_drewN | apply below_drew1 | refine below_set ?_ GE238.out | refine below_set ?_ GE239.out | refine below_set ?_ GE240.out) | exact HB.out)) hb); clear BK238; clear BK239; clear BK240; clear HB; have BK238 := n0_; have BK239 := n1_; have BK240 := n2_; have HB := n3_; clear n0_ n1_ n2_ n3_; (try clear hb); (try clear hb2); (try clear hk); (try clear hi)))
    go_ret
    exact ⟨by first | rfl | (simp [errW_none, errW_some] <;> rfl) | (simp [*, errW_none, errW_some] <;> rfl), by repeat (first | (with_reducible first | exact HB.out | apply below_alloc | apply pw_below_drewN | apply below_drew1 | refine below_set ?_ GE238.out | refine below_set ?_ GE239.out | refine below_set ?_ GE240.out) | exact HB.out)⟩

/-- THE ONE PURE STATEMENT of stoalaw05_CellOrders: yours. -/
def stoalaw05_CellOrders.Pure : Prop := ∀ (a0 : Int) (a1_0 : Bool) (a1_1 : Int) (l1_2 : List Int) (a2_0 : Bool) (a2_1 : Int) (l2_2 : List Int) (a3_0 : Bool) (a3_1 : Int) (l3_2 : List Int), (Lit.int .i64 a0).wf = true → (Lit.int .i64 a1_1).wf = true → l1_2.length ≤ maxLen → l1_2.length * 1 ≤ 140737488351232 → (∀ x ∈ l1_2, (Lit.int .u8 x).wf = true) → (Lit.int .i64 a2_1).wf = true → l2_2.length ≤ maxLen → l2_2.length * 1 ≤ 140737488351232 → (∀ x ∈ l2_2, (Lit.int .u8 x).wf = true) → (Lit.int .i64 a3_1).wf = true → l3_2.length ≤ maxLen → l3_2.length * 1 ≤ 140737488351232 → (∀ x ∈ l3_2, (Lit.int .u8 x).wf = true) → ∃ k, stoalaw05_CellOrders.f k a0 a1_0 a1_1 l1_2 a2_0 a2_1 l2_2 a3_0 a3_1 l3_2 = some true
theorem stoalaw05_CellOrders.walk (P : stoalaw05_CellOrders.Pure) (a0 : Int) (a1_0 : Bool) (a1_1 : Int) (a1_2 : Option Addr) (len1_2 cap1_2 : Nat) (z1_2 : List Int) (a2_0 : Bool) (a2_1 : Int) (a2_2 : Option Addr) (len2_2 cap2_2 : Nat) (z2_2 : List Int) (a3_0 : Bool) (a3_1 : Int) (a3_2 : Option Addr) (len3_2 cap3_2 : Nat) (z3_2 : List Int) (w : World) (w0 : (Lit.int .i64 a0).wf = true) (w1_1 : (Lit.int .i64 a1_1).wf = true) (w1_2 : (a1_2 = none ∧ len1_2 = 0 ∧ cap1_2 = 0 ∧ z1_2 = []) ∨ ∃ x, a1_2 = some x ∧ len1_2 ≤ cap1_2 ∧ cap1_2 ≤ maxLen ∧ z1_2.length = cap1_2 ∧ (∀ i, i < z1_2.length → w.cell? (x.add i) = some (.int .u8 (z1_2.getD i 0))) ∧ ∀ n ∈ z1_2, (Lit.int .u8 n).wf = true) (y1_2 : len1_2 * 1 ≤ 140737488351232) (w2_1 : (Lit.int .i64 a2_1).wf = true) (w2_2 : (a2_2 = none ∧ len2_2 = 0 ∧ cap2_2 = 0 ∧ z2_2 = []) ∨ ∃ x, a2_2 = some x ∧ len2_2 ≤ cap2_2 ∧ cap2_2 ≤ maxLen ∧ z2_2.length = cap2_2 ∧ (∀ i, i < z2_2.length → w.cell? (x.add i) = some (.int .u8 (z2_2.getD i 0))) ∧ ∀ n ∈ z2_2, (Lit.int .u8 n).wf = true) (y2_2 : len2_2 * 1 ≤ 140737488351232) (w3_1 : (Lit.int .i64 a3_1).wf = true) (w3_2 : (a3_2 = none ∧ len3_2 = 0 ∧ cap3_2 = 0 ∧ z3_2 = []) ∨ ∃ x, a3_2 = some x ∧ len3_2 ≤ cap3_2 ∧ cap3_2 ≤ maxLen ∧ z3_2.length = cap3_2 ∧ (∀ i, i < z3_2.length → w.cell? (x.add i) = some (.int .u8 (z3_2.getD i 0))) ∧ ∀ n ∈ z3_2, (Lit.int .u8 n).wf = true) (y3_2 : len3_2 * 1 ≤ 140737488351232) :
    Calls Try.prog 8 #[.int .i64 a0, .agg #[.bool a1_0, .int .i64 a1_1, .slice a1_2 len1_2 cap1_2], .agg #[.bool a2_0, .int .i64 a2_1, .slice a2_2 len2_2 cap2_2], .agg #[.bool a3_0, .int .i64 a3_1, .slice a3_2 len3_2 cap3_2]] w fun e w' => e = .returned (.bool true) ∧ Below w.heap.size w w' := by
  obtain ⟨l1_2, rfl, hr1_2, hm1_2, hw1_2, hc1_2⟩ := ReadsInt.ofRowC w1_2
  obtain ⟨l2_2, rfl, hr2_2, hm2_2, hw2_2, hc2_2⟩ := ReadsInt.ofRowC w2_2
  obtain ⟨l3_2, rfl, hr3_2, hm3_2, hw3_2, hc3_2⟩ := ReadsInt.ofRowC w3_2
  obtain ⟨k, h⟩ := P a0 a1_0 a1_1 l1_2 a2_0 a2_1 l2_2 a3_0 a3_1 l3_2 w0 w1_1 hm1_2 y1_2 hw1_2 w2_1 hm2_2 y2_2 hw2_2 w3_1 hm3_2 y3_2 hw3_2
  refine (stoalaw05_CellOrders.calls k a0 a1_0 a1_1 _ _ l1_2 a2_0 a2_1 _ _ l2_2 a3_0 a3_1 _ _ l3_2 true w (Kd.C_of_reads (d := (0 : Int)) (h1 := fun _ => rfl) hr1_2) hc1_2 (Kd.C_of_reads (d := (0 : Int)) (h1 := fun _ => rfl) hr2_2) hc2_2 (Kd.C_of_reads (d := (0 : Int)) (h1 := fun _ => rfl) hr3_2) hc3_2 h).mono ?_
  rintro e w' ⟨rfl, hd⟩
  exact ⟨rfl, hd⟩

end Go.Proofs.Ytaibfjipombilaa.PCellOrders

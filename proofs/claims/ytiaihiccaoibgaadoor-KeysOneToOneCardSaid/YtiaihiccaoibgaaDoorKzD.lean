import Derived.Test.YtiaihiccaoibgaaDoorKzC
import Derived.Test.YtiaihiccaoibgaaDoorAb34
set_option linter.unusedSimpArgs false
set_option linter.unusedVariables false
set_option linter.unusedSectionVars false
set_option maxRecDepth 20000
set_option maxHeartbeats 1000000
namespace Go.Proofs.YtiaihiccaoibgaaDoor.B
open Go Go.Ab
def cmpB (a b : List Int) : Int := Lib.compareBytes (Lib.bytesOf a) (Lib.bytesOf b)
noncomputable def k_bCompare : Ab.Spec := con2 some some fun v w objs => match ofIntsR .u8 objs v, ofIntsR .u8 objs w with | some a, some b => some (.int .i64 (cmpB a b), none) | _, _ => none
noncomputable def T_bCompare : CallF := withF T_Enc 67 k_bCompare
theorem T_bCompare_ok : CallOk Tryd.prog T_bCompare := con_ext Extern.BytealgCompare.compare T_Enc_ok (fn := Tryd.f67) (by kernel_rfl) (by kernel_rfl) rfl (by kernel_rfl) (by kernel_rfl) (by
  intro args objs r h0
  obtain ⟨v, w, _, _, rfl, hv, hw, hR⟩ := con2_inv h0
  cases hv; cases hw
  split at hR
  case h_2 => cases hR
  rename_i a b ha hb
  cases hR
  refine ⟨rfl, rfl, fun G w1 cargs hs hA => ?_⟩
  obtain ⟨x, y, hxy⟩ : ∃ x y, cargs = #[x, y] := by
    have hl := hA.len
    match cargs, hl with
    | ⟨[x, y]⟩, _ => exact ⟨x, y, rfl⟩
  subst hxy
  obtain ⟨⟨vx, -⟩, ⟨vy, -⟩, -⟩ := hA
  have h1 := read_bytes (P := Tryd.prog) hs vx ha
  have h2 := read_bytes (P := Tryd.prog) hs vy hb
  refine ⟨.int .i64 (cmpB a b), ?_, .int⟩
  show Sem.run Tryd.prog (do pure (goInt (Extern.BytealgCompare.cmp (← Extern.Bytes.bytesOf x) (← Extern.Bytes.bytesOf y)))) w1 = _
  simp only [Sem.run_bind, h1, h2, Sem.run_pure, Result.andThen]
  rw [Lib.cmp_eq]
  rfl)
noncomputable def k_Compare : Ab.Spec := con2 some some fun v w objs => match ofIntsR .u8 objs v, ofIntsR .u8 objs w with | some a, some b => some (.int .i64 (cmpB a b), none) | _, _ => none
noncomputable def T_Compare : CallF := withF T_bCompare 48 k_Compare
theorem T_Compare_ok : CallOk Tryd.prog T_Compare := con_of (A := annOf [] [] [] false []) fit T_bCompare_ok (fn := Tryd.f48) (by kernel_rfl) (by kernel_rfl) (by
  intro args objs r h0
  have c_bCompare : ∀ a o, T_bCompare 67 a o = k_bCompare a o := fun _ _ => rfl
  obtain ⟨v, w, _, _, rfl, hv, hw, hR⟩ := con2_inv h0
  cases hv; cases hw
  split at hR
  case h_2 => cases hR
  rename_i a b ha hb
  cases hR
  obtain ⟨_, vd, -⟩ := bsR ha
  obtain ⟨_, wd, -⟩ := bsR hb
  refine .go _ rfl rfl ?_
  simp -implicitDefEqProofs [vd, wd, c_bCompare, k_bCompare, ha, hb])
/-! order of bytes, plain -/
def cmpZ : List Int → List Int → Int
  | [], [] => 0
  | [], _ :: _ => -1
  | _ :: _, [] => 1
  | a :: p, b :: q => if a < b then -1 else if b < a then 1 else cmpZ p q
theorem cmpB_eq : ∀ {a b : List Int}, (∀ c ∈ a, 0 ≤ c ∧ c < 256) → (∀ c ∈ b, 0 ≤ c ∧ c < 256) → cmpB a b = cmpZ a b
  | [], [], _, _ => rfl
  | [], _ :: _, _, _ => rfl
  | _ :: _, [], _, _ => rfl
  | a :: p, b :: q, ha, hb => by
    have h1 := ha a (by simp)
    have h2 := hb b (by simp)
    have ih := cmpB_eq (a := p) (b := q) (fun c hc => ha c (by simp [hc])) (fun c hc => hb c (by simp [hc]))
    have lt : ∀ x y : Int, 0 ≤ x ∧ x < 256 → 0 ≤ y ∧ y < 256 → (UInt8.ofNat x.toNat < UInt8.ofNat y.toNat ↔ x < y) := fun x y hx hy => by
      rw [UInt8.lt_iff_toNat_lt, UInt8.toNat_ofNat', UInt8.toNat_ofNat', Nat.mod_eq_of_lt (by omega), Nat.mod_eq_of_lt (by omega)]
      omega
    show (if UInt8.ofNat a.toNat < UInt8.ofNat b.toNat then (-1 : Int) else if UInt8.ofNat b.toNat < UInt8.ofNat a.toNat then 1 else Lib.compareBytes (Lib.bytesOf p) (Lib.bytesOf q)) = if a < b then -1 else if b < a then 1 else cmpZ p q
    simp only [lt a b h1 h2, lt b a h2 h1]
    rw [show Lib.compareBytes (Lib.bytesOf p) (Lib.bytesOf q) = cmpB p q from rfl, ih]

def AG : Ann := ⟨fun f d => if f = 11 then (annOf [] [5,19] [] false []).mode f d else if f = 12 then (annOf [] [] [] false []).mode f d else if f = 13 then (annOf [] [53] [] false []).mode f d else if f = 14 then (annOf [] [] [] false [42]).mode f d else if f = 15 then (annOf [] [] [] false []).mode f d else if f = 16 then (annOf [] [17] [(6, [.ref])] false []).mode f d else if f = 17 then (annOf [48] [] [] false []).mode f d else if f = 19 then (annOf [] [] [] true [42]).mode f d else if f = 20 then (annOf [5] [] [] false []).mode f d else if f = 21 then (annOf [8] [] [] false []).mode f d else if f = 22 then (annOf [] [4,6] [] false []).mode f d else if f = 23 then (annOf [] [] [] false []).mode f d else if f = 26 then (annOf [] [] [] false []).mode f d else if f = 29 then (annOf [] [] [] false []).mode f d else if f = 30 then (annOf [] [5,18] [] false []).mode f d else if f = 33 then (annOf [9] [] [] false []).mode f d else if f = 35 then (annOf [] [] [] false []).mode f d else if f = 36 then (annOf [] [] [] false []).mode f d else if f = 37 then (annOf [] [] [] false []).mode f d else if f = 38 then (annOf [10,42,58,71,74,79] [] [] false []).mode f d else if f = 39 then (annOf [] [] [] false []).mode f d else if f = 40 then (annOf [] [] [] false []).mode f d else if f = 41 then (annOf [] [11,13,20,23,27] [] false []).mode f d else if f = 42 then (annOf [] [] [] false []).mode f d else if f = 43 then (annOf [] [] [] false []).mode f d else if f = 44 then (annOf [] [] [] false []).mode f d else if f = 47 then (annOf [] [5,7] [] false []).mode f d else if f = 48 then (annOf [] [] [] false []).mode f d else if f = 49 then (annOf [] [] [] false []).mode f d else if f = 51 then (annOf [] [] [] false []).mode f d else if f = 52 then (annOf [] [] [] false []).mode f d else if f = 53 then (annOf [] [] [] false []).mode f d else if f = 54 then (annOf [] [] [] false []).mode f d else if f = 55 then (annOf [7] [] [] false []).mode f d else if f = 56 then (annOf [] [] [] false []).mode f d else if f = 57 then (annOf [] [] [] false []).mode f d else if f = 58 then (annOf [] [] [] false []).mode f d else if f = 59 then (annOf [] [] [] false []).mode f d else if f = 60 then (annOf [] [] [] false []).mode f d else if f = 61 then (annOf [] [] [] false []).mode f d else if f = 62 then (annOf [] [10] [] false []).mode f d else if f = 63 then (annOf [] [28] [] false []).mode f d else if f = 64 then (annOf [] [] [] false []).mode f d else if f = 65 then (annOf [8,35,55] [] [] false []).mode f d else if f = 68 then (annOf [] [] [] false []).mode f d else if f = 69 then (annOf [] [] [] false []).mode f d else if f = 70 then (annOf [] [25,44] [] false []).mode f d else if f = 71 then (annOf [] [] [] false []).mode f d else if f = 72 then (annOf [] [] [] false []).mode f d else if f = 73 then (annOf [] [] [] false []).mode f d else if f = 75 then (annOf [] [] [] false []).mode f d else if f = 78 then (annOf [] [] [] false []).mode f d else if f = 79 then (annOf [] [] [] false []).mode f d else if f = 80 then (annOf [] [] [] false []).mode f d else if f = 83 then (annOf [] [] [] false []).mode f d else if f = 84 then (annOf [] [] [] false []).mode f d else if f = 86 then (annOf [] [] [] false []).mode f d else [], fun f => if f = 11 then (annOf [] [5,19] [] false []).keep f else if f = 12 then (annOf [] [] [] false []).keep f else if f = 13 then (annOf [] [53] [] false []).keep f else if f = 14 then (annOf [] [] [] false [42]).keep f else if f = 15 then (annOf [] [] [] false []).keep f else if f = 16 then (annOf [] [17] [(6, [.ref])] false []).keep f else if f = 17 then (annOf [48] [] [] false []).keep f else if f = 19 then (annOf [] [] [] true [42]).keep f else if f = 20 then (annOf [5] [] [] false []).keep f else if f = 21 then (annOf [8] [] [] false []).keep f else if f = 22 then (annOf [] [4,6] [] false []).keep f else if f = 23 then (annOf [] [] [] false []).keep f else if f = 26 then (annOf [] [] [] false []).keep f else if f = 29 then (annOf [] [] [] false []).keep f else if f = 30 then (annOf [] [5,18] [] false []).keep f else if f = 33 then (annOf [9] [] [] false []).keep f else if f = 35 then (annOf [] [] [] false []).keep f else if f = 36 then (annOf [] [] [] false []).keep f else if f = 37 then (annOf [] [] [] false []).keep f else if f = 38 then (annOf [10,42,58,71,74,79] [] [] false []).keep f else if f = 39 then (annOf [] [] [] false []).keep f else if f = 40 then (annOf [] [] [] false []).keep f else if f = 41 then (annOf [] [11,13,20,23,27] [] false []).keep f else if f = 42 then (annOf [] [] [] false []).keep f else if f = 43 then (annOf [] [] [] false []).keep f else if f = 44 then (annOf [] [] [] false []).keep f else if f = 47 then (annOf [] [5,7] [] false []).keep f else if f = 48 then (annOf [] [] [] false []).keep f else if f = 49 then (annOf [] [] [] false []).keep f else if f = 51 then (annOf [] [] [] false []).keep f else if f = 52 then (annOf [] [] [] false []).keep f else if f = 53 then (annOf [] [] [] false []).keep f else if f = 54 then (annOf [] [] [] false []).keep f else if f = 55 then (annOf [7] [] [] false []).keep f else if f = 56 then (annOf [] [] [] false []).keep f else if f = 57 then (annOf [] [] [] false []).keep f else if f = 58 then (annOf [] [] [] false []).keep f else if f = 59 then (annOf [] [] [] false []).keep f else if f = 60 then (annOf [] [] [] false []).keep f else if f = 61 then (annOf [] [] [] false []).keep f else if f = 62 then (annOf [] [10] [] false []).keep f else if f = 63 then (annOf [] [28] [] false []).keep f else if f = 64 then (annOf [] [] [] false []).keep f else if f = 65 then (annOf [8,35,55] [] [] false []).keep f else if f = 68 then (annOf [] [] [] false []).keep f else if f = 69 then (annOf [] [] [] false []).keep f else if f = 70 then (annOf [] [25,44] [] false []).keep f else if f = 71 then (annOf [] [] [] false []).keep f else if f = 72 then (annOf [] [] [] false []).keep f else if f = 73 then (annOf [] [] [] false []).keep f else if f = 75 then (annOf [] [] [] false []).keep f else if f = 78 then (annOf [] [] [] false []).keep f else if f = 79 then (annOf [] [] [] false []).keep f else if f = 80 then (annOf [] [] [] false []).keep f else if f = 83 then (annOf [] [] [] false []).keep f else if f = 84 then (annOf [] [] [] false []).keep f else if f = 86 then (annOf [] [] [] false []).keep f else false, fun g => [19, 42].contains g, fun _ => false, fun _ => false⟩
noncomputable def XF : FuncId → Option (List V → List AO → Option V) := fun f => if f = 74 then some (fun a o => resOf (k_bIndexByte a o)) else if f = 91 then some (fun a o => resOf (k_bCount a o)) else if f = 67 then some (fun a o => resOf (k_bCompare a o)) else none
theorem xok : XOk Tryd.prog XF := xok_of (T := T_bCompare) T_bCompare_ok (by
  intro f g args objs v h1 h2
  unfold XF at h1
  split at h1
  · rename_i hf; subst hf; cases h1; exact resOf_inv h2
  split at h1
  · rename_i hf; subst hf; cases h1; exact resOf_inv h2
  split at h1
  · rename_i hf; subst hf; cases h1; exact resOf_inv h2
  cases h1)
theorem alive_run : runF Tryd.prog AG (callA Tryd.prog AG XF 600) 600 10 Tryd.f10 [] [] = some (.bool true, none) := by kernel_rfl
def k_alive : Ab.Spec := con0 fun objs => match objs with | [] => some (.bool true, none) | _ => none
noncomputable def T_alive : CallF := withF T_Compare 10 k_alive
theorem T_alive_ok : CallOk Tryd.prog T_alive := con_by (A := AG) fit T_Compare_ok (callA_ok (A := AG) fit xok 600) (fn := Tryd.f10) (by kernel_rfl) (by kernel_rfl) (by
  intro args objs r h0
  obtain ⟨rfl, hR⟩ := con0_inv h0
  split at hR <;> cases hR
  exact .run 600 alive_run)

end Go.Proofs.YtiaihiccaoibgaaDoor.B
set_option maxRecDepth 20000
set_option maxHeartbeats 1000000
namespace Go.Proofs.YtiaihiccaoibgaaDoor.B
open Go Go.Ab
theorem in_int {D M n : Nat} {v : V} {t : TypeId} {k : IntKind} (hu : Tryd.prog.underlying t = some (.int k)) (hg : Ab.isAgg Tryd.prog t = false) (h : ShpV Tryd.prog D M n t v) : ∃ i, v = .int k i ∧ (Lit.int k i).wf = true := by
  unfold ShpV at h
  rw [if_neg (by rw [hg]; simp)] at h
  exact shp_int hu h
theorem wf_u32 {c : Int} (h : (Lit.int .u32 c).wf = true) : 0 ≤ c ∧ c < 4294967296 := by
  simp [Lit.wf, IntKind.min, IntKind.max] at h; omega
theorem wf_u64 {c : Int} (h : (Lit.int .u64 c).wf = true) : 0 ≤ c ∧ c < 18446744073709551616 := by
  simp [Lit.wf, IntKind.min, IntKind.max] at h; omega
theorem wf_i64 {c : Int} (h : (Lit.int .i64 c).wf = true) : -9223372036854775808 ≤ c ∧ c < 9223372036854775808 := by
  simp [Lit.wf, IntKind.min, IntKind.max] at h; omega
theorem flat : laidFlat Tryd.prog = true := by kernel_rfl

theorem shp_bytes {D M k : Nat} {v : V} (h : Shp Tryd.prog D M k 28 v) : ∃ l, ofInts .u8 v = some l ∧ b8 l = true ∧ l.length ≤ 140737488351232 := by
  obtain ⟨l, l1, l2, l3, l4⟩ := shp_ints u28 u5 h
  have hb : Tryd.prog.bytesOf 5 = 1 := by kernel_rfl
  rw [hb] at l3
  exact ⟨l, l1, wf_u8 l2, by omega⟩
theorem shp_cell {D M k : Nat} {a b c : V} (h0 : Shp Tryd.prog D M k 4 a) (h1 : Shp Tryd.prog D M k 2 b) (h2 : Shp Tryd.prog D M k 28 c) : ∃ n i, a = .bool n ∧ b = .int .i64 i ∧ ceOk [] ⟨n, i, c⟩ = true := by
  obtain ⟨n, rfl⟩ := shp_bool u4 h0
  obtain ⟨i, rfl, hi⟩ := shp_int u2 h1
  obtain ⟨l, l1, l2, l3⟩ := shp_bytes h2
  exact ⟨n, i, rfl, rfl, (ceOk_of (x := ⟨n, i, c⟩) (i64B_iff.2 (wf_i64 hi)) (ofIntsR_of l1) l2 (by omega)).1⟩
theorem recR_told {α : Type} [Inhabited α] {d : List V → Option α} {e : Nat} {v : V} {l : List α} (h : ofRecL d e v = some l) : recR d e [] v = some l := by
  unfold recR
  split
  · cases h
  · exact h
theorem in_rowS {D M n : Nat} {v : V} (h2 : Shp Tryd.prog (D + 64) M n 25 v) : ∃ l, rowR [] v = some l ∧ l.length * 40 ≤ 140737488351232 ∧ (M = 0 ∨ l.length ≤ M) := by
  have hls : leaves Tryd.prog (D + 64) 63 = [4, 2, 28] := by kernel_rfl
  obtain ⟨l, l1, l2, l3, l4⟩ := shp_recs (d := ceD []) (R := fun _ => True) (m := 3) u25 hls rfl (fun k us hl hs => by
    match us, hl with
    | [a, b, c], _ =>
      obtain ⟨n, i, rfl, rfl, hk⟩ := shp_cell (hs 0 a _ rfl rfl) (hs 1 b _ rfl rfl) (hs 2 c _ rfl rfl)
      exact ⟨⟨n, i, c⟩, ceD_ok.2 hk, trivial⟩) h2
  have hb : Tryd.prog.bytesOf 63 = 40 := by kernel_rfl
  rw [hb] at l3
  exact ⟨l, recR_told l1, l3, l4⟩
theorem in_colS {D M n : Nat} {v : V} (h2 : Shp Tryd.prog (D + 64) M n 22 v) : ∃ l, recR coD 3 [] v = some l ∧ short24 l = true ∧ l.length * 32 ≤ 140737488351232 ∧ (M = 0 ∨ l.length ≤ M) := by
  have hls : leaves Tryd.prog (D + 64) 68 = [9, 3, 4] := by kernel_rfl
  obtain ⟨l, l1, l2, l3, l4⟩ := shp_recs (d := coD) (R := fun c => (strL c.nm).length < 140737488355328) (m := 3) u22 hls rfl (fun k us hl hs => by
    match us, hl with
    | [a, b, c], _ =>
      obtain ⟨s, rfl, hs1, -⟩ := shp_str u9 (hs 0 a _ rfl rfl)
      obtain ⟨i, rfl, hi⟩ := shp_int u3 (hs 1 b _ rfl rfl)
      obtain ⟨n, rfl⟩ := shp_bool u4 (hs 2 c _ rfl rfl)
      exact ⟨⟨s, i, n⟩, rfl, by rw [strL_len]; exact Nat.lt_of_le_of_lt hs1 (by decide)⟩) h2
  have hb : Tryd.prog.bytesOf 68 = 32 := by kernel_rfl
  rw [hb] at l3
  exact ⟨l, recR_told l1, by simpa [short24] using l2, l3, l4⟩
theorem in_row {D M n : Nat} {v : V} (h : ShpV Tryd.prog (D + 64) M n 25 v) : ∃ l, rowR [] v = some l ∧ l.length * 40 ≤ 140737488351232 ∧ (M = 0 ∨ l.length ≤ M) := by
  have hg : Ab.isAgg Tryd.prog 25 = false := by kernel_rfl
  exact in_rowS (by unfold ShpV at h; rwa [if_neg (by rw [hg]; simp)] at h)
theorem in_schema {D M n : Nat} {v : V} (h : ShpV Tryd.prog (D + 64) M n 24 v) : ∃ cols K, schD [] v = some (cols, K) ∧ cols.length * 32 ≤ 140737488351232 ∧ (M = 0 ∨ cols.length ≤ M) ∧ i64B K = true := by
  have hg : Ab.isAgg Tryd.prog 24 = true := by kernel_rfl
  unfold ShpV at h
  rw [if_pos hg] at h
  obtain ⟨us, rfl, hl, hs⟩ := h
  have hls : leaves Tryd.prog (D + 64) 24 = [22, 3] := by kernel_rfl
  rw [hls] at hl hs
  match us, hl with
  | [a, b], _ =>
    obtain ⟨cols, c1, c2, c3, c4⟩ := in_colS (hs 0 a _ rfl rfl)
    obtain ⟨K, rfl, hK⟩ := shp_int u3 (hs 1 b _ rfl rfl)
    exact ⟨cols, K, schD_of c1 (by omega) c2, c3, c4, i64B_iff.2 (wf_i64 hK)⟩

noncomputable def k_aliveA : Ab.Spec := anyF k_alive
noncomputable def T_aliveA : CallF := withF T_alive 10 k_aliveA
theorem T_aliveA_ok : CallOk Tryd.prog T_aliveA := con_any T_alive_ok (fun _ _ => rfl)
theorem aliveA (O : List AO) : k_aliveA [] O = some (.bool true, none) := anyF_of rfl rfl
theorem old_nil (O : List AO) : Old [] O := Old.ext [] O
theorem tw_of {objs O : List AO} {x : Ce} (h : ceOk objs x = true) (ho : Old objs O) : tw O x = tw objs x := by unfold tw; rw [(ce_old h ho).2]
theorem twm_of {objs O : List AO} {row : List Ce} (h : ∀ x ∈ row, ceOk objs x = true) (ho : Old objs O) : row.map (tw O) = row.map (tw objs) := List.map_congr_left fun x hx => tw_of (h x hx) ho

/-! Apart at frozen rows -/
theorem apart_frozen {a : List Int} {objs : List AO} {id ver : Nat} (hg : Ab.getObj objs id ver = some (ints .u8 a)) (h0 : 0 < a.length) (hl : a.length < 140737488354000) (hcl : clean objs.length (objs.set id (.cells (ints .u8 (a.map spF)) ver)) = true) :
    k_Apart [.ref id ver 0 a.length 1, .lst .frozen (ints .u8 a) a.length, .lst .frozen (ints .u8 a) a.length] objs = some (.bool true, some (objs.set id (.cells (ints .u8 (a.map spF)) ver), id)) := by
  have h1 : ∀ O : List AO, ofIntsR .u8 O (.lst .frozen (ints .u8 a) a.length) = some a := fun O => ofIntsR_of (ofInts_lst rfl)
  have hz : ¬ a.length = 0 := by omega
  have hz2 : ¬ a = [] := fun q => hz (by rw [q]; rfl)
  simp [k_Apart, con3, hg, ofCellsI_ints, hl, h1, hcl, hz2, bnd_pos]
theorem apart_nils (objs : List AO) : k_Apart [.nils, .nils, .nils] objs = some (.bool true, none) := by
  have h1 : ofIntsR .u8 objs V.nils = some [] := rfl
  simp [k_Apart, con3, h1]
theorem sch_clean {s : V} {cols : List Co} {K : Int} {v : V} (h : recR coD 3 [] v = some cols) (b : Nat) : Ab.noref b v = true := (colsV h).noref (Nat.zero_le _) (norefs_iff.2 fun u hu => by
  obtain ⟨x, -, h⟩ := List.mem_flatMap.1 hu
  simp only [coV, List.mem_cons, List.not_mem_nil, or_false] at h
  rcases h with rfl | rfl | rfl <;> rfl)

theorem chkK_tw {objs O : List AO} (c : Co) {x : Ce} (h : ceOk objs x = true) : chkK O c (tw objs x) = chkK objs c x := by unfold chkK; rw [(tw_ok h).2]; rfl
theorem kcell_tw {objs O : List AO} (c : Co) {x : Ce} (h : ceOk objs x = true) : kcell O c (tw objs x) = kcell objs c x := by unfold kcell; rw [(tw_ok h).2]; rfl
theorem encE_tw {objs O : List AO} {cols : List Co} {K : Int} {row : List Ce} (h : ∀ x ∈ row, ceOk objs x = true) : encE O cols K (row.map (tw objs)) = encE objs cols K row := by
  unfold encE
  rw [List.length_map, firstE_congr (f := fun i => chkK O (nth cols i) (nth (row.map (tw objs)) i)) (g := fun i => chkK objs (nth cols i) (nth row i)) fun j _ hj => by
    show chkK O _ (nth (row.map (tw objs)) j) = _
    rw [nth_map (by omega)]
    exact chkK_tw _ (h _ (nth_mem (by omega)))]
theorem encZ_tw {objs O : List AO} {cols : List Co} {row : List Ce} (h : ∀ x ∈ row, ceOk objs x = true) : encZ O cols (row.map (tw objs)) = encZ objs cols row := by
  unfold encZ
  rw [List.length_map]
  refine catZ_congr fun i hi => ?_
  show kcell O _ (nth (row.map (tw objs)) i) = _
  rw [nth_map hi]
  exact kcell_tw _ (h _ (nth_mem hi))
noncomputable def k_KeysEncodes : Ab.Spec := con2 some some fun s w objs => match objs with
  | [] => match schD [] s, rowR [] w with
    | some _, some row => bnd (row.length * 40) 140737488355328 (some (.bool true, none))
    | _, _ => none
  | _ => none
noncomputable def T_KeysEncodes : CallF := withF T_aliveA 3 k_KeysEncodes
theorem T_KeysEncodes_ok : CallOk Tryd.prog T_KeysEncodes := con_of (A := annOf [] [] [(25, [.ref])] false [14]) fit T_aliveA_ok (fn := Tryd.f3) (by kernel_rfl) (by kernel_rfl) (by
  intro args objs r h0
  have c_aliveA : ∀ a o, T_aliveA 10 a o = k_aliveA a o := fun _ _ => rfl
  have c_TwinRow : ∀ a o, T_aliveA 11 a o = k_TwinRow a o := fun _ _ => rfl
  have c_rEnc : ∀ a o, T_aliveA 12 a o = k_rEnc a o := fun _ _ => rfl
  have c_Enc : ∀ a o, T_aliveA 13 a o = k_Enc a o := fun _ _ => rfl
  have c_Apart : ∀ a o, T_aliveA 14 a o = k_Apart a o := fun _ _ => rfl
  have c_AlikeRow : ∀ a o, T_aliveA 15 a o = k_AlikeRow a o := fun _ _ => rfl
  obtain ⟨s, w, _, _, rfl, hs, hw, hR⟩ := con2_inv h0
  cases hs; cases hw
  split at hR
  case h_2 => cases hR
  split at hR
  case h_2 => cases hR
  rename_i p row hsc hr
  obtain ⟨cols, K⟩ := p
  obtain ⟨l1, hR⟩ := bnd_inv hR
  cases hR
  obtain ⟨v, rfl, hc, hl, hsh⟩ := schD_inv hsc
  have vd := (colsV hc).dem
  have wd := (rowF hr).2.1
  have rk := (rowR_inv hr).2
  have rk' := (rowF hr).2.2.2.2
  have S1 := fun O => schD_old hsc (old_nil O)
  have R1 := fun O => rowR_old hr (old_nil O)
  have nv := fun b => sch_clean (s := v) (K := K) hc b
  obtain ⟨Rv, hRv⟩ : ∃ Rv, Rv = V.lst .frozen (flatV ceV (row.map (tw []))) row.length := ⟨_, rfl⟩
  have R2 : ∀ O, rowR O Rv = some (row.map (tw [])) := fun O => by rw [hRv]; exact tw_row rk
  have M1 : ∀ O, row.map (Ce.t O) = row.map (Ce.t []) := fun O => List.map_congr_left fun x hx => Ce.t_old (rk x hx) (old_nil O)
  have M3 := fun O => tm_tw (O := O) rk
  have T1 : ∀ O, k_TwinRow [w] O = some (.lst (.fresh 3 true) (flatV ceV (row.map (tw []))) row.length, none) := fun O => by simp (disch := omega) [k_TwinRow, R1 O, twm_of rk (old_nil O)]
  have A1 : ∀ O, k_AlikeRow [Rv, w] O = some (.bool true, none) := fun O => by simp (disch := omega) [k_AlikeRow, R1 O, R2 O, M1 O, M3 O]
  have Md : demote Rv = Rv := by rw [hRv]; rfl
  obtain ⟨E, hE⟩ : ∃ E, E = encE [] cols K row := ⟨_, rfl⟩
  obtain ⟨A, hA⟩ : ∃ A, A = encZ [] cols row := ⟨_, rfl⟩
  have P1 : ∀ O, k_rEnc [.agg [v, .int .i64 K], w] O = some (cputV E .frozen A, none) := fun O => by simp [k_rEnc, S1 O, R1 O, encE_old rk' (old_nil O), encZ_old rk' (old_nil O), ← hE, ← hA]
  have P2 : ∀ O, k_Enc [.agg [v, .int .i64 K], Rv] O = some (cputV E (.fresh 1 true) A, none) := fun O => by simp [k_Enc, S1 O, R2 O, encE_tw rk, encZ_tw rk, ← hE, ← hA]
  refine .go _ rfl rfl ?_
  by_cases he : E = 0
  · obtain ⟨q1, q2⟩ := encZ_len (by rw [← hE]; exact he)
    rw [← hA] at q1 q2
    have P1' : ∀ O, k_rEnc [.agg [v, .int .i64 K], w] O = some (.tup [.lst .frozen (ints .u8 A) A.length, .int .i64 0], none) := fun O => by rw [P1, he]; rfl
    have P2' : ∀ O, k_Enc [.agg [v, .int .i64 K], Rv] O = some (.tup [.lst (.fresh 1 true) (ints .u8 A) A.length, .int .i64 0], none) := fun O => by rw [P2, he]; rfl
    have H1 := apart_frozen (a := A) (objs := [.cells [v, .int .i64 K] 0, .cells (ints .u8 A) 0]) (id := 1) (ver := 0) rfl q1 (by omega) (by simp [clean, nv])
    simp only [List.set_cons_succ, List.set_cons_zero] at H1
    simp -implicitDefEqProofs (maxSteps := 1000000) (disch := omega) [vd, wd, c_aliveA, aliveA, c_TwinRow, T1, ← hRv, Md, c_rEnc, P1', c_Enc, P2', c_Apart, H1, c_AlikeRow, A1]
  · have P1' : ∀ O, k_rEnc [.agg [v, .int .i64 K], w] O = some (.tup [.nils, .int .i64 E], none) := fun O => by rw [P1]; unfold cputV; rw [if_neg he]
    have P2' : ∀ O, k_Enc [.agg [v, .int .i64 K], Rv] O = some (.tup [.nils, .int .i64 E], none) := fun O => by rw [P2]; unfold cputV; rw [if_neg he]
    simp -implicitDefEqProofs (maxSteps := 1000000) (disch := omega) [vd, wd, c_aliveA, aliveA, c_TwinRow, T1, ← hRv, Md, c_rEnc, P1', c_Enc, P2', c_Apart, apart_nils, c_AlikeRow, A1])
theorem walk_KeysEncodes {D M n : Nat} {vs : List V} {args : Array Value} {W : World} (hS : ShpAll Tryd.prog (D + 64) M n [24, 25] vs) (hA : AR (top W) W vs args.toList) : Calls Tryd.prog 3 args W fun e W' => e = .returned (.bool true) ∧ Go.RowKit.Below W.heap.size W W' := by
  match vs, hS with
  | [v0, v1], ⟨s0, s1, _⟩ =>
    obtain ⟨cols, K, c1, c2, -⟩ := in_schema s0
    obtain ⟨row, r1, r2, -⟩ := in_row s1
    refine whole fit T_KeysEncodes_ok (fn := Tryd.f3) (by kernel_rfl) (by kernel_rfl) ?_ hA
    show k_KeysEncodes [v0, v1] [] = _
    simp (disch := omega) [k_KeysEncodes, c1, r1]

end Go.Proofs.YtiaihiccaoibgaaDoor.B

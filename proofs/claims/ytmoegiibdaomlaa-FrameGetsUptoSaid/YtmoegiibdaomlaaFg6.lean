import Derived.Test.YtmoegiibdaomlaaFg5
set_option linter.unusedSimpArgs false
set_option linter.unusedVariables false
set_option linter.unusedSectionVars false
set_option maxRecDepth 20000
set_option maxHeartbeats 1000000
namespace Go.Proofs.Ytmoegiibdaomlaa.B
open Go Go.Ab
theorem scanW_dem (L : List (Int × V)) : demote (scanW L) = scanW L := by unfold scanW; split <;> rfl
theorem scanW_ntup (L : List (Int × V)) : ntup (scanW L) = some (scanW L) := by unfold scanW; split <;> rfl
theorem scanW_of (L : List (Int × V)) : ofFrsA (scanW L) = some L := by
  unfold scanW
  split
  · rename_i h; subst h; rfl
  · exact ofRecL_lst frW_len (fun a => rfl) rfl
def upW (r : Int × List Int) : Int × V := (r.1, .lst .frozen (ints .u8 r.2) r.2.length)
theorem frV_up (fs : List (Int × List Int)) : flatV frV fs = flatV frW (fs.map upW) := by
  unfold flatV
  rw [List.flatMap_map]; rfl
theorem scanR_of (fs : List (Int × List Int)) : ofFrsA (.lst .frozen (flatV frV fs) fs.length) = some (fs.map upW) := by
  rw [frV_up]; exact ofRecL_lst frW_len (fun a => rfl) (by simp)
theorem alike_held {O : List AO} {L : List (Int × V)} {fs : List (Int × List Int)} (h : Held O (L.map (·.2)) (fs.map (·.2))) (h1 : L.map (·.1) = fs.map (·.1)) (hl : ∀ r ∈ fs, r.2.length < 140737488355328) : SameFr O L (fs.map upW) := by
  have hn : L.length = fs.length := by have := congrArg List.length h1; simpa using this
  refine ⟨by simp [hn], fun i hi => ?_⟩
  have hf : i < fs.length := by omega
  rw [nth_map hf]
  refine ⟨?_, (nth fs i).2, ?_, ?_, hl _ (nth_mem hf)⟩
  · have e : nth (L.map (·.1)) i = nth (fs.map (·.1)) i := by rw [h1]
    rw [nth_map hi, nth_map hf] at e; exact e
  · obtain ⟨v, v1, v2⟩ := h.row i (by simpa using hf)
    rw [nth_map hf] at v2
    have : v = (nth L i).2 := by
      have q := map_nth (g := fun r : Int × V => r.2) hi
      rw [v1] at q; exact Option.some.inj q
    rw [← this]; exact v2.bytes
  · exact ofIntsR_of (ofInts_lst rfl)
theorem sc_len {l : List Int} (hB : B8 l) : ∀ (n : Nat) (a : Int), 0 ≤ a → a ≤ l.length → lens ((scZ l n a).1.map (·.2)) ≤ 70 * (l.length - a.toNat) ∧ ∀ r ∈ (scZ l n a).1, r.2.length < l.length + 1
  | 0, a, _, _ => ⟨by simp [scZ, lens], by simp [scZ]⟩
  | n + 1, a, h0, ha => by
    by_cases hlt : a < (l.length : Int)
    · by_cases he : (getZ l a).err ≠ 0
      · rw [scZ_bad hlt he]; exact ⟨by simp [lens], by simp⟩
      · obtain ⟨k, b, hge, -, -, hnx⟩ := get_ok hB (Decidable.byContradiction he)
        rw [scZ_ok hlt hge]
        obtain ⟨q1, q2⟩ := sc_len hB n (a + ((b.length : Int) + 13)) (by omega) hnx
        refine ⟨?_, fun r hr => ?_⟩
        · have : lens (((k, b) :: (scZ l n (a + ((b.length : Int) + 13))).1).map (·.2)) = (b.length + 70) + lens ((scZ l n (a + ((b.length : Int) + 13))).1.map (·.2)) := by simp [lens]
          rw [this]
          omega
        · rcases List.mem_cons.1 hr with rfl | q
          · show b.length < _; omega
          · exact q2 r q
    · rw [scZ_end hlt]; exact ⟨by simp [lens], by simp⟩
def ScanP (l : List Int) (O : List AO) (y : List (Int × V) × List AO × Nat) : Prop := k_ScanK [.lst .frozen (ints .u8 l) l.length] O = some (.tup [scanW y.1, .int .i64 (scX l).2.1, .int .i64 (scX l).2.2], some (O ++ y.2.1, y.2.2)) ∧ Held (O ++ y.2.1) (y.1.map (·.2)) ((scX l).1.map (·.2)) ∧ y.1.map (·.1) = (scX l).1.map (·.1) ∧ ∀ u, u ∈ y.1.map (·.2) → ∀ id, idOf u = some id → O.length ≤ id
def ScanF (l : List Int) (F : List AO → List (Int × V) × List AO × Nat) : Prop := ∀ O, ScanP l O (F O)
theorem scanF {l : List Int} (hl : l.length < 50000000000000) (hB : B8 l) : ∃ F, ScanF l F :=
  (Classical.skolem (p := ScanP l)).1 (fun O : List AO => by
    obtain ⟨r, k1, l', L, o2, low, q1, q2, q3, q4, q5⟩ := s_ScanK (objs := O) (ofInts_lst (n := l.length) rfl) hl hB
    rw [ofInts_lst (n := l.length) rfl] at q1; cases q1
    exact ⟨(L, o2, low), by rw [k1, q2], q3, q4, q5⟩)
theorem gets {l : List Int} {F : List AO → List (Int × V) × List AO × Nat} (h : ScanF l F) (hl : l.length < 1000000000000) (hB : B8 l) (O1 O2 O3 : List AO) (h2 : O2 = O1 ++ (F O1).2.1) (h3 : O3 = O2 ++ (F O2).2.1) :
    (F O1).1.length = (scX l).1.length ∧ (F O2).1.length = (scX l).1.length ∧ (scX l).1.length < 2000000000000 ∧ SameFr O3 (F O1).1 ((scX l).1.map upW) ∧ SameFr O3 (F O2).1 ((scX l).1.map upW) ∧ OkB O3 (F O1).1 ∧ OkB O3 ((scX l).1.map upW) ∧
    ∃ O4 low, k_ApartAll [.lst .frozen ((F O1).1.map (·.2)) (scX l).1.length, .lst .frozen (((scX l).1.map upW).map (·.2)) (scX l).1.length] O3 = some (.bool true, some (O4, low)) ∧ SameFr O4 (F O2).1 ((scX l).1.map upW) := by
  obtain ⟨-, a1, a2, a3⟩ := h O1
  obtain ⟨-, b1, b2, b3⟩ := h O2
  rw [← h2] at a1
  rw [← h3] at b1
  have a1' : Held O3 ((F O1).1.map (·.2)) ((scX l).1.map (·.2)) := by rw [h3]; exact a1.app
  obtain ⟨sl, sm⟩ := sc_len hB l.length 0 (by omega) (by omega)
  have sl' : lens ((scX l).1.map (·.2)) ≤ 70 * (l.length - Int.toNat 0) := sl
  have sc := lens_count (ls := (scX l).1.map (·.2))
  rw [List.length_map] at sc
  have hlen : ∀ r ∈ (scX l).1, r.2.length < 140737488355328 := fun r hr => by have := sm r hr; omega
  have n1 : (F O1).1.length = (scX l).1.length := by have := a1.len; simpa using this
  have n2 : (F O2).1.length = (scX l).1.length := by have := b1.len; simpa using this
  have ok1 : ((F O1).1.map (·.2)).all (okBody O3.length) = true := List.all_eq_true.2 fun u hu => by
    obtain ⟨i, hi⟩ := List.mem_iff_getElem?.1 hu
    have hi2 : i < ((scX l).1.map (·.2)).length := by rw [← a1'.len]; exact (List.getElem?_eq_some_iff.1 hi).1
    obtain ⟨w, w1, w2⟩ := a1'.row i hi2
    rw [hi] at w1; cases w1
    rcases w2 with ⟨rfl, -⟩ | ⟨id, ver, rfl, hg⟩
    · rfl
    · simp [okBody, getObj_lt hg]
  have ok2 : (((scX l).1.map upW).map (·.2)).all (okBody O3.length) = true := List.all_eq_true.2 fun u hu => by
    obtain ⟨r, hr, rfl⟩ := List.mem_map.1 hu
    obtain ⟨q, hq, rfl⟩ := List.mem_map.1 hr
    simp [upW, okBody]
  refine ⟨n1, n2, by omega, alike_held a1' a2 hlen, alike_held b1 b2 hlen, ok1, ok2, ?_⟩
  obtain ⟨r, k1, O4, low, rfl, k3⟩ := s_ApartAll (objs := O3) (v := .lst .frozen ((F O1).1.map (·.2)) (scX l).1.length) (w := .lst .frozen (((scX l).1.map upW).map (·.2)) (scX l).1.length) (vs := (F O1).1.map (·.2)) (ws := ((scX l).1.map upW).map (·.2)) (ls := (scX l).1.map (·.2))
    (.inl (by rw [List.length_map])) (.inl (by rw [List.length_map])) (fun i hi => by
      rw [List.length_map] at hi
      refine ⟨(upW (nth (scX l).1 i)).2, ?_, ?_⟩
      · rw [List.map_map]; exact map_nth hi
      · rw [nth_map hi]; exact ofInts_lst rfl) a1' (by omega)
  obtain ⟨z1, z2, z3⟩ := k3 _ _ (.inl (by rw [List.length_map])) a1'
  refine ⟨O4, low, k1, alike_held (b1.same fun u id ver hu hid => ?_) b2 hlen⟩
  refine z3 id ver fun w hw q => ?_
  have hge := b3 u hu id hid
  obtain ⟨i, hi⟩ := List.mem_iff_getElem?.1 hw
  have hi2 : i < ((scX l).1.map (·.2)).length := by rw [← a1.len]; exact (List.getElem?_eq_some_iff.1 hi).1
  obtain ⟨x, w1, w2⟩ := a1.row i hi2
  rw [hi] at w1; cases w1
  rcases w2 with ⟨rfl, -⟩ | ⟨id', ver', rfl, hg⟩
  · cases q
  · have := getObj_lt hg
    simp only [idOf, Option.some.injEq] at q
    omega
noncomputable def k_FrameGets : Ab.Spec := con2 (ofInts .u8) (ofInt .i64) fun l p objs => match objs with | [] => bnd l.length 1000000000000 (if b8 l = true then some (.bool true, none) else none) | _ => none
noncomputable def T_FrameGets : CallF := withF T_Bodies 4 k_FrameGets
theorem T_FrameGets_ok : CallOk Try.prog T_FrameGets := con_of (A := annOf [] [] [] false [22, 19, 16]) fit T_Bodies_ok (fn := Try.f4) (by kernel_rfl) (by kernel_rfl) (by
  intro args objs r h0
  have c_alive : ∀ a o, T_Bodies 9 a o = k_alive a o := fun _ _ => rfl
  have c_Wide : ∀ a o, T_Bodies 10 a o = k_Wide a o := fun _ _ => rfl
  have c_GetK : ∀ a o, T_Bodies 16 a o = k_GetK a o := fun _ _ => rfl
  have c_rfGet : ∀ a o, T_Bodies 17 a o = k_rfGet a o := fun _ _ => rfl
  have c_SameR : ∀ a o, T_Bodies 18 a o = k_SameR a o := fun _ _ => rfl
  have c_ScanK : ∀ a o, T_Bodies 19 a o = k_ScanK a o := fun _ _ => rfl
  have c_rfScan : ∀ a o, T_Bodies 20 a o = k_rfScan a o := fun _ _ => rfl
  have c_AlikeR : ∀ a o, T_Bodies 21 a o = k_AlikeR a o := fun _ _ => rfl
  have c_Bodies : ∀ a o, T_Bodies 23 a o = k_Bodies a o := fun _ _ => rfl
  have c_ApartAll : ∀ a o, T_Bodies 22 a o = k_ApartAll a o := fun _ _ => rfl
  have c_Intact : ∀ a o, T_Bodies 13 a o = k_Intact a o := fun _ _ => rfl
  obtain ⟨v, _, l, p, rfl, ha, hp, hR⟩ := con2_inv h0
  obtain rfl := ofInt_inv hp
  split at hR
  case h_2 => cases hR
  obtain ⟨hl, hR⟩ := bnd_inv hR
  split at hR
  case isFalse => cases hR
  rename_i hl8
  cases hR
  have hB : B8 l := b8_iff.1 hl8
  obtain ⟨vd, vn, vi, -⟩ := bs ha
  have hwl := wide_len l
  have hwt : (wide l).take l.length = l := by simp [wide]
  have e0 : ofInts .u8 (.lst .frozen (ints .u8 (wide l)) (l.length + 64)) = some (wide l) := ofInts_lst (by rw [hwl])
  have e1 : ofInts .u8 (.lst .frozen (ints .u8 l) l.length) = some l := ofInts_lst rfl
  obtain ⟨F, hF⟩ := scanF (l := l) (by omega) hB
  have hF1 := fun O => (hF O).1
  refine .go _ rfl rfl ?_
  cases hgb : (getZ l p).body with
  | none =>
    have fk : frameK 0 (getZ l p) = .agg [.int .i64 (getZ l p).kind, .nils] := by unfold frameK bodyK; rw [hgb]
    have fo : frameO 0 (getZ l p) = [.cells [.int .i64 (getZ l p).kind, .nils] 0] := by unfold frameO bodyK; rw [hgb]
    have fv : frameV (getZ l p) = .agg [.int .i64 (getZ l p).kind, .nils] := by unfold frameV bodyV; rw [hgb]
    have hnil : ∀ O, ofIntsR .u8 O V.nils = some [] := fun _ => rfl
    have hG := gets hF hl hB [AO.cells [.int .i64 (getZ l p).kind, .nils] 0, AO.cells [.int .i64 (getZ l p).kind, .nils] 0, AO.cells [.int .i64 (getZ l p).kind, .nils] 0] _ _ rfl rfl
    simp only [List.cons_append, List.nil_append, List.append_assoc, List.map_map] at hG
    obtain ⟨n1, n2, n3, S1, S2, K1, K2, O4, low, hA, S3⟩ := hG
    simp -implicitDefEqProofs (maxSteps := 1000000) (disch := omega) [c_alive, c_Wide, c_GetK, c_rfGet, c_SameR, c_ScanK, c_rfScan, c_AlikeR, c_Bodies, c_ApartAll, c_Intact, k_alive, k_Wide, k_GetK, k_rfGet, k_SameR, hF1, k_rfScan, k_AlikeR, k_Bodies, k_Intact, vd, vn, ha, e0, e1, hwl, hwt, hl8, clean, fk, fo, fv, hnil, setCells, scanW_dem, scanW_ntup, scanW_of, scanR_of, n1, n2, pre_pos S1, pre_pos S2, pre_pos S3, pre_pos K1, pre_pos K2, hA]
  | some b =>
    have fk : frameK 0 (getZ l p) = .agg [.int .i64 (getZ l p).kind, .ref 1 0 0 b.length 1] := by unfold frameK bodyK; rw [hgb]
    have fo : frameO 0 (getZ l p) = [.cells [.int .i64 (getZ l p).kind, .ref 1 0 0 b.length 1] 0, .cells (ints .u8 b) 0] := by unfold frameO bodyK; rw [hgb]
    have fv : frameV (getZ l p) = .agg [.int .i64 (getZ l p).kind, .lst .frozen (ints .u8 b) b.length] := by unfold frameV bodyV; rw [hgb]
    have hbl : b.length < 140737488355328 := by
      by_cases he : (getZ l p).err ≠ 0
      · obtain ⟨e, hge, -⟩ := get_bad he
        rw [hge] at hgb; cases hgb
      · obtain ⟨k, b', hge, -, h0a, hnx⟩ := get_ok hB (Decidable.byContradiction he)
        rw [hge] at hgb; cases hgb; omega
    obtain ⟨O, hO⟩ : ∃ O, O = [AO.cells [.int .i64 (getZ l p).kind, .ref 1 0 0 b.length 1] 0, AO.cells (ints .u8 b) 0, AO.cells [.int .i64 (getZ l p).kind, .ref 1 0 0 b.length 1] 0, AO.cells [.int .i64 (getZ l p).kind, .lst .frozen (ints .u8 b) b.length] 0] := ⟨_, rfl⟩
    have hb1 : ofIntsR .u8 O (.ref 1 0 0 b.length 1) = some b := by rw [hO]; exact ofIntsR_ref rfl rfl
    have hb2 : ofIntsR .u8 O (.lst .frozen (ints .u8 b) b.length) = some b := ofIntsR_of (ofInts_lst rfl)
    rw [hO] at hb1 hb2
    have hG := gets hF hl hB O _ _ rfl rfl
    rw [hO] at hG
    simp only [List.cons_append, List.nil_append, List.append_assoc, List.map_map] at hG
    obtain ⟨n1, n2, n3, S1, S2, K1, K2, O4, low, hA, S3⟩ := hG
    simp -implicitDefEqProofs (maxSteps := 1000000) (disch := omega) [c_alive, c_Wide, c_GetK, c_rfGet, c_SameR, c_ScanK, c_rfScan, c_AlikeR, c_Bodies, c_ApartAll, c_Intact, k_alive, k_Wide, k_GetK, k_rfGet, k_SameR, hF1, k_rfScan, k_AlikeR, k_Bodies, k_Intact, vd, vn, ha, e0, e1, hwl, hwt, hl8, clean, fk, fo, fv, hb1, hb2, hbl, setCells, scanW_dem, scanW_ntup, scanW_of, scanR_of, n1, n2, pre_pos S1, pre_pos S2, pre_pos S3, pre_pos K1, pre_pos K2, hA])
theorem walk_FrameGets {D n : Nat} {vs : List V} {args : Array Value} {W : World} (hS : ShpAll Try.prog D 1048576 n [22, 3] vs) (hA : AR (top W) W vs args.toList) : Calls Try.prog 4 args W fun e W' => e = .returned (.bool true) ∧ Go.RowKit.Below W.heap.size W W' := by
  match vs, hS with
  | [v0, v1], ⟨s0, s1, _⟩ =>
    obtain ⟨l0, d0, b0, n0, m0⟩ := in_bytes s0
    obtain ⟨i1, rfl, w1⟩ := in_int u3 (by kernel_rfl) s1
    refine whole fit T_FrameGets_ok (fn := Try.f4) (by kernel_rfl) (by kernel_rfl) ?_ hA
    show k_FrameGets [v0, .int .i64 i1] [] = _
    have m0 : l0.length ≤ 1048576 := m0.resolve_left (by omega)
    simp (disch := omega) [k_FrameGets, d0, b0]

/-! the statements over what is of bounded bulk -/
theorem bulk_mem {H : Type} {d : DataW H} : ∀ {l : List (DataW H)}, d ∈ l → Rows.uptoBulk d ≤ Rows.uptoBulkAll l
  | x :: l, h => by
    rcases List.mem_cons.1 h with rfl | q
    · simp only [Rows.uptoBulkAll]; omega
    · have := bulk_mem q; simp only [Rows.uptoBulkAll]; omega
theorem bulk_one {H : Type} (d : DataW H) : 1 ≤ Rows.uptoBulk d := by
  cases d with
  | lit l => cases l <;> simp [Rows.uptoBulk]
  | nil => simp [Rows.uptoBulk]
  | ptr d => simp [Rows.uptoBulk]
  | slice elems spare => simp [Rows.uptoBulk]
  | agg parts => simp [Rows.uptoBulk]
  | iface t d => simp [Rows.uptoBulk]
  | map entries => simp [Rows.uptoBulk]
  | held h => simp [Rows.uptoBulk]
theorem bulk_len {H : Type} (l : List (DataW H)) : l.length ≤ Rows.uptoBulkAll l := by
  induction l with
  | nil => simp [Rows.uptoBulkAll]
  | cons x r ih => have := bulk_one x; simp only [Rows.uptoBulkAll, List.length_cons]; omega
theorem bulkB {H : Type} : Bulk (Rows.uptoBulk (H := H)) where
  str bs := by simp only [Rows.uptoBulk]; omega
  ptr d := by simp only [Rows.uptoBulk]; omega
  len es sp := by have := bulk_len es; simp only [Rows.uptoBulk]; omega
  elem es sp d h := by have := bulk_mem h; simp only [Rows.uptoBulk]; omega
  part ps d h := by have := bulk_mem h; simp only [Rows.uptoBulk]; omega

end Go.Proofs.Ytmoegiibdaomlaa.B

import Derived.Test.YtodpdfnnnkcnnaaRn4
set_option linter.unusedSimpArgs false
set_option linter.unusedVariables false
set_option linter.unusedSectionVars false
set_option maxRecDepth 20000
set_option maxHeartbeats 1000000
namespace Go.Proofs.Ytodpdfnnnkcnnaa.B
open Go Go.Ab
def r64 (l : List Int) : Bool := l.all fun c => decide (-9223372036854775808 ≤ c) && decide (c < 9223372036854775808)
theorem r64_iff {l : List Int} : r64 l = true ↔ ∀ c ∈ l, -9223372036854775808 ≤ c ∧ c < 9223372036854775808 := by simp [r64]
theorem in_nums {D M n : Nat} {v : V} (h : ShpV Try.prog D M n 22 v) : ∃ l, ofInts .i64 v = some l ∧ r64 l = true ∧ l.length * 8 ≤ 140737488351232 ∧ (M = 0 ∨ l.length ≤ M) := by
  have hg : Ab.isAgg Try.prog 22 = false := by kernel_rfl
  have h2 : Shp Try.prog D M n 22 v := by unfold ShpV at h; rwa [if_neg (by rw [hg]; simp)] at h
  obtain ⟨l, l1, l2, l3, l4⟩ := shp_ints u22 u2 h2
  have hb : Try.prog.bytesOf 2 = 8 := by kernel_rfl
  rw [hb] at l3
  exact ⟨l, l1, r64_iff.2 fun c hc => wf_i64 (l2 c hc), by omega, l4⟩

noncomputable def k_Copy8 : Ab.Spec := con1 (ofInts .i64) fun l _ => bnd (l.length * 8) 140737488355328 (some (.lst (.fresh 1 false) (ints .i64 l) l.length, none))
noncomputable def T_Copy8 : CallF := withF T_Apart 9 k_Copy8
theorem T_Copy8_ok : CallOk Try.prog T_Copy8 := con_of (A := annOf [5] [] [] false []) fit T_Apart_ok (fn := Try.f9) (by kernel_rfl) (by kernel_rfl) (by
  intro args objs r h0
  obtain ⟨v, l, rfl, ha, hR⟩ := con1_inv h0
  obtain ⟨hl, hR⟩ := bnd_inv hR
  cases hR
  obtain ⟨vd, vn, vi, -⟩ := ns ha
  refine .go _ rfl rfl ?_
  simp [nlit0]
  refine .up l.length (fun i s => s.env 0 = v ∧ s.env 3 = .lst (.tok 0 1) (ints .i64 (l.take i)) i ∧ s.env 4 = .int .i64 i ∧ s.toks = [i] ∧ s.objs = objs ∧ s.low = objs.length) (by simp [ints_nil]) ?_
  rintro i s hi ⟨h0, h3, h4, ht, ho, hlo⟩
  rcases Nat.lt_or_ge i l.length with h | h
  · have e := take_nth h
    have hm : min i l.length = i := by omega
    have f := of_get (ints_nth (k := .i64) h)
    simp (disch := omega) [h0, h3, h4, ht, ho, hlo, vn, vi, h, ints_nth, nlit1, e, wrap_small, Nat.mod_one, hm, f]
  · obtain rfl : i = l.length := by omega
    simp (disch := omega) [h0, h3, h4, ht, ho, hlo, vn])
/-! runs told or held -/
def ofRunsR (objs : List AO) (v : V) : Option (List (Int × Int)) := match v with
  | .ref id ver 0 len 2 => match Ab.getObj objs id ver with | some cs => ofRecs ofRun 2 len cs | none => none
  | v => ofRuns v
theorem ofRunsR_of {objs : List AO} {v : V} {l : List (Int × Int)} (h : ofRuns v = some l) : ofRunsR objs v = some l := by
  unfold ofRunsR
  split
  · cases h
  · exact h
theorem ofRunsR_ref {objs : List AO} {l : List (Int × Int)} {id ver n : Nat} (h : Ab.getObj objs id ver = some (flatV runV l)) (hn : n = l.length) : ofRunsR objs (.ref id ver 0 n 2) = some l := by
  subst hn
  simp only [ofRunsR, h]
  exact ofRecs_flat runV_len ofRun_run l
theorem rsR {objs : List AO} {v : V} {l : List (Int × Int)} (h : ofRunsR objs v = some l) : ∃ P : Nat → V, demote v = v ∧ lenV Try.prog 25 v = some (.int .i64 l.length) ∧ (∀ k i, 0 ≤ i → i < (l.length : Int) → indexV Try.prog 25 v (.int k i) = some (P i.toNat)) ∧ ∀ i, i < l.length → loadV Try.prog 33 objs (P i) = some (.agg [.int .i64 (nth l i).1, .int .i64 (nth l i).2]) := by
  unfold ofRunsR at h
  split at h
  · rename_i id ver len
    split at h
    case h_2 => cases h
    rename_i cs hg
    obtain ⟨rfl, hlen⟩ := ofRecs_inv runV_len ofRun_inv len cs l h
    subst hlen
    refine ⟨fun i => .ptr id ver (i * 2), rfl, by simp, fun k i h0 h1 => by simp [h0, h1], fun i hi => ?_⟩
    have fa := flatV_at runV_len hi
    have ff := flatV_fit runV_len hi
    have fr : runV (nth l i) = [.int .i64 (nth l i).1, .int .i64 (nth l i).2] := rfl
    rw [fr] at fa
    simp [hg, fa, ff]
  · obtain ⟨vd, vn, vi, -⟩ := rs h
    refine ⟨fun i => .fptr (flatV runV l) (i * 2), vd, vn, vi, fun i hi => ?_⟩
    have fa := flatV_at runV_len hi
    have ff := flatV_fit runV_len hi
    have fr : runV (nth l i) = [.int .i64 (nth l i).1, .int .i64 (nth l i).2] := rfl
    rw [fr] at fa
    simp [fa, ff]
noncomputable def k_SameRunsR : Ab.Spec := con2 some some fun v w objs => match ofRunsR objs v, ofRunsR objs w with | some a, some b => bnd a.length 140737488355328 (some (.bool (decide (a = b)), none)) | _, _ => none
noncomputable def T_SameRunsR : CallF := withF T_Copy8 12 k_SameRunsR
theorem T_SameRunsR_ok : CallOk Try.prog T_SameRunsR := con_of (A := annOf [] [] [] false []) fit T_Copy8_ok (fn := Try.f12) (by kernel_rfl) (by kernel_rfl) (by
  intro args objs r h0
  obtain ⟨v, w, _, _, rfl, hv, hw, hR⟩ := con2_inv h0
  cases hv; cases hw
  split at hR
  case h_2 => cases hR
  rename_i a b ha hb
  obtain ⟨hl, hR⟩ := bnd_inv hR
  cases hR
  obtain ⟨pa, vd, vn, vi, vl⟩ := rsR ha
  obtain ⟨pb, wd, wn, wi, wl⟩ := rsR hb
  have hfl : Ab.flat Try.prog 33 = some [.int .i64, .int .i64] := by kernel_rfl
  refine .go _ rfl rfl ?_
  by_cases hn : a.length = b.length
  · simp [vn, wn, hn]
    refine .up a.length (fun i s => s.env 0 = v ∧ s.env 1 = w ∧ s.env 5 = .int .i64 i ∧ s.toks = [] ∧ s.objs = objs ∧ s.low = objs.length ∧ ∀ j, j < i → nth a j = nth b j) (by simp) ?_
    rintro i s hi ⟨h0, h1, h5, ht, ho, hlo, hj⟩
    rcases Nat.lt_or_ge i a.length with h | h
    · have e1 := vi .i64 i (by omega) (by omega)
      have e2 := wi .i64 i (by omega) (by omega)
      rw [Int.toNat_natCast] at e1 e2
      have f1 := vl i h
      have f2 := wl i (by omega)
      obtain ⟨q, hq⟩ : ∃ q, q = nth a i := ⟨_, rfl⟩
      obtain ⟨r, hr⟩ : ∃ r, r = nth b i := ⟨_, rfl⟩
      rw [← hq] at f1
      rw [← hr] at f2
      by_cases he : q = r
      · have hs : ∀ j, j < i + 1 → nth a j = nth b j := fun j hj2 => by
          rcases Nat.lt_or_ge j i with h2 | h2
          · exact hj j h2
          · obtain rfl : j = i := by omega
            rw [← hq, ← hr, he]
        subst he
        simp -implicitDefEqProofs (disch := omega) [-loadV, h0, h1, h5, ht, ho, hlo, vn, wn, e1, e2, h, f1, f2, binV, hfl, eqCells, wrap_small]
        exact hs
      · have hne : a ≠ b := fun z => he (by rw [hq, hr, z])
        have hf : ((q.1 == r.1) && (q.2 == r.2)) = false := by
          rcases Bool.eq_false_or_eq_true ((q.1 == r.1) && (q.2 == r.2)) with z | z
          · exfalso; simp at z; exact he (Prod.ext z.1 z.2)
          · exact z
        simp -implicitDefEqProofs (disch := omega) [-loadV, h0, h1, h5, ht, ho, hlo, vn, wn, e1, e2, h, f1, f2, binV, hfl, eqCells, hf, hne]
    · have hab : a = b := ext_nth hn fun j h2 => hj j (by omega)
      have hnl : ¬ i < b.length := by omega
      simp [h0, h1, h5, ht, ho, hlo, vn, wn, hab, hnl]
  · have hf : ((a.length : Int) != (b.length : Int)) = true := by simp only [bne_iff_ne, ne_eq]; omega
    have hne : a ≠ b := fun q => hn (by rw [q])
    simp [vn, wn, hf, hne])
def incP (S : List (Int × Int)) : Nat → List (Int × Int)
  | 0 => S
  | i + 1 => (incP S i).set i ((nth (incP S i) i).1, (nth (incP S i) i).2 + 1)
theorem incP_len (S : List (Int × Int)) : ∀ i, (incP S i).length = S.length
  | 0 => rfl
  | i + 1 => by simp [incP, incP_len S i]
theorem incP_ge (S : List (Int × Int)) : ∀ i j, i ≤ j → nth (incP S i) j = nth S j
  | 0, _, _ => rfl
  | i + 1, j, h => by
    rw [← incP_ge S i j (by omega)]
    unfold nth
    rw [List.getD_eq_getElem?_getD, List.getD_eq_getElem?_getD, incP, List.getElem?_set_ne (by omega)]
noncomputable def k_RunsSplits : Ab.Spec := con1 (ofInts .i64) fun l objs => match objs with | [] => bnd (l.length * 8) 140737488355000 (if r64' l = true then some (.bool true, none) else none) | _ => none
noncomputable def T_RunsSplits : CallF := withF T_SameRunsR 3 k_RunsSplits
theorem T_RunsSplits_ok : CallOk Try.prog T_RunsSplits := con_of (A := annOf [] [] [(23, [.ref]),(69, [.ref]),(74, [.ref])] false [15]) fit T_SameRunsR_ok (fn := Try.f3) (by kernel_rfl) (by kernel_rfl) (by
  intro args objs r h0
  have c_alive : ∀ a o, T_SameRunsR 8 a o = k_alive a o := fun _ _ => rfl
  have c_Copy8 : ∀ a o, T_SameRunsR 9 a o = k_Copy8 a o := fun _ _ => rfl
  have c_Split : ∀ a o, T_SameRunsR 10 a o = k_Split a o := fun _ _ => rfl
  have c_RefSplit : ∀ a o, T_SameRunsR 11 a o = k_RefSplit a o := fun _ _ => rfl
  have c_SameRunsR : ∀ a o, T_SameRunsR 12 a o = k_SameRunsR a o := fun _ _ => rfl
  have c_Encode : ∀ a o, T_SameRunsR 13 a o = k_Encode a o := fun _ _ => rfl
  have c_RefEncode : ∀ a o, T_SameRunsR 14 a o = k_RefEncode a o := fun _ _ => rfl
  have c_Apart : ∀ a o, T_SameRunsR 15 a o = k_Apart a o := fun _ _ => rfl
  have c_Same8 : ∀ a o, T_SameRunsR 16 a o = k_Same8 a o := fun _ _ => rfl
  obtain ⟨v, l, rfl, ha, hR⟩ := con1_inv h0
  split at hR
  case h_2 => cases hR
  obtain ⟨hl, hR⟩ := bnd_inv hR
  split at hR
  case isFalse => cases hR
  rename_i hr64
  cases hR
  have hr := r64'_iff.1 hr64
  obtain ⟨vd, vn, vi, -⟩ := ns ha
  have e1 : ofInts .i64 (.lst .frozen (ints .i64 l) l.length) = some l := ofInts_lst rfl
  have hn0 : ∀ O, ofRunsR O V.nils = some [] := fun _ => rfl
  have hi0 : ∀ O, ofIntsR .i64 O v = some l := fun O => ofIntsR_of ha
  have hi1 : ∀ O, ofIntsR .i64 O (.lst .frozen (ints .i64 l) l.length) = some l := fun O => ofIntsR_of e1
  have hap0 := apart_nil (u := .nils) rfl
  refine .go _ rfl rfl ?_
  by_cases hbig : 4096 < l.length
  · simp -implicitDefEqProofs (disch := omega) [c_alive, c_Copy8, c_Split, c_RefSplit, c_SameRunsR, c_Encode, c_RefEncode, c_Apart, c_Same8, k_alive, k_Copy8, k_Split, k_RefSplit, k_SameRunsR, k_Encode, k_RefEncode, hap0, k_Same8, vd, vn, ha, e1, hbig, hn0, hi0, hi1, hr64]
    refine .up 0 (fun i s => i = 0 ∧ s.env 3 = .lst .frozen (ints .i64 l) l.length ∧ s.env 0 = v ∧ s.env 6 = .nils ∧ s.env 8 = .nils ∧ s.env 52 = .int .i64 0 ∧ s.env 53 = .int .i64 0 ∧ s.toks = [] ∧ s.objs = [] ∧ s.low = 0) (by simp) ?_
    rintro i s hi ⟨-, g3, g0, g6, g8, g52, g53, ht, ho, hlo⟩
    simp -implicitDefEqProofs (disch := omega) [g3, g0, g6, g8, g52, g53, ht, ho, hlo, c_Encode, c_RefEncode, c_Apart, c_SameRunsR, c_Same8, k_Encode, k_RefEncode, hap0, k_SameRunsR, k_Same8, vd, vn, ha, e1, hbig, hn0, hi0, hi1, hr64]
  have hcnt := splitI_cnt l l.length
  have hSle := splitI_le l l.length
  have hpos := splitI_pos l l.length
  obtain ⟨S, hS⟩ : ∃ S, S = splitI l l.length := ⟨_, rfl⟩
  rw [← hS] at hcnt hSle hpos
  have hwR : ∀ O, ofRunsR O (.lst .frozen (flatV runV S) S.length) = some S := fun O => ofRunsR_of (ofRecL_lst runV_len ofRun_run rfl)
  obtain ⟨E, hE⟩ : ∃ E, E = encL S := ⟨_, rfl⟩
  have hEl0 : 0 < E.length := by rw [hE]; have := M.putL_pos S.length; simp [encL]; omega
  have hEl1 : E.length ≤ 10 + 20 * 4096 := by
    have hval := splitI_val hr l.length (Nat.le_refl _)
    rw [← hS] at hval
    have hb20 : ∀ r ∈ S, (runB r).length ≤ 20 := fun r hr2 => by
      have h1 := hval r hr2
      have h2 := hcnt r hr2
      have h3 := foldI_range h1.1 h1.2
      exact runB_len (by omega) (by omega)
    have := encT_len hb20 S.length (Nat.le_refl _)
    have p10 := M.putL_len10 (u := S.length) (by omega)
    rw [List.take_length] at this
    rw [hE]; simp only [encL, List.length_append]; omega
  have eE : ofInts .u8 (.lst .frozen (ints .u8 E) E.length) = some E := ofInts_lst rfl
  by_cases hz : l = []
  · have hS0 : S = [] := by rw [hS, hz]; rfl
    have hsv : splitV l = .nils := if_pos hz
    have hap := apart_two (n := E.length) rfl hEl0 (by omega) eE
    have hl0 : l.length = 0 := by rw [hz]; rfl
    have hf0 : flatV runV S = [] := by rw [hS0]; rfl
    have hSl : S.length = 0 := by rw [hS0]; rfl
    have hw0 : ∀ O, ofRunsR O (.lst .frozen [] 0) = some [] := fun _ => rfl
    simp -implicitDefEqProofs (disch := omega) [c_alive, c_Copy8, c_Split, c_RefSplit, c_SameRunsR, c_Encode, c_RefEncode, c_Apart, c_Same8, k_alive, k_Copy8, k_Split, k_RefSplit, k_SameRunsR, vd, vn, ha, e1, hn0, hi0, hi1, hr64, hbig, ← hS, hsv, hw0, hf0, hSl]
    refine .up 0 (fun i s => i = 0 ∧ s.env 3 = .lst .frozen (ints .i64 l) l.length ∧ s.env 0 = v ∧ s.env 6 = .nils ∧ s.env 8 = .lst .frozen [] 0 ∧ s.env 52 = .int .i64 0 ∧ s.env 53 = .int .i64 0 ∧ s.toks = [] ∧ s.objs = [] ∧ s.low = 0) (by simp) ?_
    rintro i s hi ⟨-, g3, g0, g6, g8, g52, g53, ht, ho, hlo⟩
    simp -implicitDefEqProofs (disch := omega) [g3, g0, g6, g8, g52, g53, ht, ho, hlo, c_Encode, c_RefEncode, c_Apart, c_SameRunsR, c_Same8, k_Encode, k_RefEncode, hap, k_SameRunsR, k_Same8, vd, vn, ha, e1, hbig, hn0, hi0, hi1, hr64, ← hS, ← hE, hw0, clean]
  · have hsv : splitV l = .lst (.fresh 2 true) (flatV runV S) S.length := by rw [hS]; exact if_neg hz
    have hr0 : ofRunsR [AO.cells (flatV runV S) 0] (.ref 0 0 0 S.length 2) = some S := ofRunsR_ref rfl rfl
    simp -implicitDefEqProofs (disch := omega) [c_alive, c_Copy8, c_Split, c_RefSplit, c_SameRunsR, c_Encode, c_RefEncode, c_Apart, c_Same8, k_alive, k_Copy8, k_Split, k_RefSplit, k_SameRunsR, vd, vn, ha, e1, hn0, hi0, hi1, hr64, hbig, ← hS, hsv, hwR, hr0]
    obtain ⟨I, hI⟩ : ∃ I : Nat → St → Prop, I = (fun (i : Nat) (s : St) => s.env 3 = .lst .frozen (ints .i64 l) l.length ∧ s.env 0 = v ∧ s.env 4 = .ref 0 0 0 S.length 2 ∧ s.env 6 = .lst .frozen (flatV runV S) S.length ∧ s.env 8 = .lst .frozen (flatV runV S) S.length ∧ s.env 52 = .int .i64 S.length ∧ s.env 53 = .int .i64 i ∧ s.toks = [] ∧ s.objs = [AO.cells (flatV runV (incP S i)) 0] ∧ s.low = 0) := ⟨_, rfl⟩
    refine .up S.length I (by rw [hI]; exact ⟨by simp, by simp, by simp, by simp, by simp, by simp, by simp, by simp, by simp [incP], by simp⟩) ?_
    intro i s hi hs
    rw [hI] at hs
    obtain ⟨g3, g0, g4, g6, g8, g52, g53, ht, ho, hlo⟩ := hs
    have hil := incP_len S i
    rcases Nat.lt_or_ge i S.length with h | h
    · have fc := run_cnt (l := incP S i) (i := i) (by omega)
      have hge := incP_ge S i i (Nat.le_refl i)
      have hc := hcnt _ (nth_mem h)
      have hfl := flatV_len runV_len (incP S i)
      obtain ⟨r, hre⟩ : ∃ r, r = nth (incP S i) i := ⟨_, rfl⟩
      rw [← hge, ← hre] at hc
      have fset := flatV_set runV_len (l := incP S i) (i := i) (j := 1) (by omega) (a := (r.1, r.2 + 1)) (vs := [.int .i64 (r.2 + 1)]) (by simp) (by rw [← hre]; rfl)
      have hst : (incP S i).set i (r.1, r.2 + 1) = incP S (i + 1) := by rw [hre]; rfl
      rw [hst] at fset
      rw [← hre] at fc
      have fc' := of_get fc
      have k2 : i * 2 + 1 < S.length * 2 := by omega
      have k3 : i * 2 + 1 + 1 ≤ S.length * 2 := by omega
      have w1 : IntKind.i64.wrap (r.2 + 1) = r.2 + 1 := wrap_small (by omega) (by omega)
      simp -implicitDefEqProofs (disch := omega) [g3, g0, g4, g6, g8, g52, g53, ht, ho, hlo, h, fc, fc', hfl, hil, k2, k3, w1, fset, wrap_small]
      rw [hI]
      exact ⟨by simp [g3], by simp [g0], by simp [g4], by simp [g6], by simp [g8], by simp [g52], by simp, by simp, by simp, by simp⟩
    · obtain rfl : i = S.length := by omega
      have hap := apart_one (cs := flatV runV (incP S S.length)) (ver := 0) (n := E.length) (runs_refs _ 3) rfl hEl0 (by omega) eE
      simp -implicitDefEqProofs (disch := omega) [g3, g0, g4, g6, g8, g52, g53, ht, ho, hlo, c_Encode, c_RefEncode, c_Apart, c_SameRunsR, c_Same8, k_Encode, k_RefEncode, hap, k_SameRunsR, k_Same8, vd, vn, ha, e1, hbig, hn0, hi0, hi1, hr64, ← hS, ← hE, hwR, clean])
theorem walk_RunsSplits {D M n : Nat} {vs : List V} {args : Array Value} {W : World} (hS : ShpAll Try.prog D M n [22] vs) (hA : AR (top W) W vs args.toList) : Calls Try.prog 3 args W fun e W' => e = .returned (.bool true) ∧ Go.RowKit.Below W.heap.size W W' := by
  match vs, hS with
  | [v0], ⟨s0, _⟩ =>
    obtain ⟨l0, d0, b0, n0, -⟩ := in_nums s0
    have b0' : r64' l0 = true := b0
    have h1 : l0.length * 8 < 140737488355000 := by omega
    refine whole fit T_RunsSplits_ok (fn := Try.f3) (by kernel_rfl) (by kernel_rfl) ?_ hA
    show k_RunsSplits [v0] [] = _
    simp (disch := omega) [k_RunsSplits, d0, b0', h1]

end Go.Proofs.Ytodpdfnnnkcnnaa.B

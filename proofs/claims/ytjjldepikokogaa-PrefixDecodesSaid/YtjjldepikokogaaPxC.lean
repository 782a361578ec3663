import Derived.Test.YtjjldepikokogaaPxB
set_option linter.unusedSimpArgs false
set_option linter.unusedVariables false
set_option linter.unusedSectionVars false
set_option maxRecDepth 20000
set_option maxHeartbeats 1000000
namespace Go.Proofs.Ytjjldepikokogaa.B
open Go Go.Ab
/-! lists of texts -/
def txV (ss : List (List Int)) : List V := ss.map fun s => .lst .frozen (ints .u8 s) s.length
theorem txV_len (ss : List (List Int)) : (txV ss).length = ss.length := by simp [txV]
theorem txV_of {ss : List (List Int)} {n : Nat} (h : n = ss.length) : ofList (ofInts .u8) (.lst .frozen (txV ss) n) = some ss := by
  subst h
  refine ofList_lst ?_ (by simp [txV])
  have := ofCells_map (d := ofInts .u8) (f := fun s : List Int => V.lst .frozen (ints .u8 s) s.length) (g := id) (fun b => ofInts_lst rfl) ss
  rw [List.map_id] at this
  exact this
theorem txV_refs (ss : List (List Int)) (b : Nat) : norefs b (txV ss) = true := norefs_iff.2 fun v hv => by
  obtain ⟨s, -, rfl⟩ := List.mem_map.1 hv
  simp
theorem txV_snoc (ss : List (List Int)) (s : List Int) : txV ss ++ [.lst .frozen (ints .u8 s) s.length] = txV (ss ++ [s]) := by simp [txV]
theorem llit1 {v : V} (h : isDef v = true) (hc : cellsOf v = [v]) : listV Try.prog 22 1 [(0, v)] = some ([v], 1) := by simp [listV, fillV, zeros, setCells, h, hc]
theorem llit0 : listV Try.prog 22 0 [] = some ([], 1) := by simp [listV, fillV, zeros]
noncomputable def k_Copy10 : Ab.Spec := con1 (ofList (ofInts .u8)) fun ss _ => bnd (ss.length * 24) 140737488355328 (if shortT ss = true then some (.lst (.fresh 1 false) (txV ss) ss.length, none) else none)
noncomputable def T_Copy10 : CallF := withF T_rpEncode 8 k_Copy10
theorem T_Copy10_ok : CallOk Try.prog T_Copy10 := con_of (A := annOf [5] [] [] false []) fit T_rpEncode_ok (fn := Try.f8) (by kernel_rfl) (by kernel_rfl) (by
  intro args objs r h0
  have c_Copy : ∀ a o, T_rpEncode 21 a o = k_Copy a o := fun _ _ => rfl
  obtain ⟨v, ss, rfl, ha, hR⟩ := con1_inv h0
  obtain ⟨hl, hR⟩ := bnd_inv hR
  split at hR
  case isFalse => cases hR
  rename_i hall
  cases hR
  have hall := shortT_iff.1 hall
  obtain ⟨vd, vn, cs, vi, vc⟩ := tx ha
  refine .go _ rfl rfl ?_
  simp [llit0]
  refine .up ss.length (fun i s => s.env 0 = v ∧ s.env 3 = .lst (.tok 0 1) (txV (ss.take i)) i ∧ s.env 4 = .int .i64 i ∧ s.toks = [i] ∧ s.objs = objs ∧ s.low = objs.length) (by simp [txV]) ?_
  rintro i s hi ⟨h0, h3, h4, ht, ho, hlo⟩
  rcases Nat.lt_or_ge i ss.length with h | h
  · obtain ⟨c, c1, c1', c2⟩ := vc i h
    obtain ⟨cd, -⟩ := bs c2
    have e1 := vi .i64 i (by omega) (by omega)
    rw [Int.toNat_natCast] at e1
    have hL := hall _ (nth_mem h)
    have e := take_nth h
    obtain ⟨L, hLd⟩ : ∃ L, L = nth ss i := ⟨_, rfl⟩
    rw [← hLd] at c2 hL e
    have l1 := llit1 (v := .lst .frozen (ints .u8 L) L.length) rfl rfl
    have es := txV_snoc (ss.take i) L
    rw [← e] at es
    have hm : (txV (ss.take i)).length = i := by rw [txV_len, List.length_take]; omega
    simp -implicitDefEqProofs (disch := omega) [h0, h3, h4, ht, ho, hlo, vn, e1, c1, c1', cd, c2, hL, h, c_Copy, k_Copy, l1, es, hm, Nat.mod_one, wrap_small]
  · obtain rfl : i = ss.length := by omega
    have hr := txV_refs ss objs.length
    rw [List.take_length] at h3
    simp -implicitDefEqProofs (disch := omega) [h0, h3, h4, ht, ho, hlo, vn, hr, txV_len])
noncomputable def k_Same10 : Ab.Spec := con2 (ofList (ofInts .u8)) (ofList (ofInts .u8)) fun a b _ => bnd a.length 140737488355328 (if shortT a = true then some (.bool (decide (a = b)), none) else none)
noncomputable def T_Same10 : CallF := withF T_Copy10 12 k_Same10
theorem T_Same10_ok : CallOk Try.prog T_Same10 := con_of (A := annOf [] [] [] false []) fit T_Copy10_ok (fn := Try.f12) (by kernel_rfl) (by kernel_rfl) (by
  intro args objs r h0
  have c_SameR : ∀ a o, T_Copy10 22 a o = k_SameR a o := fun _ _ => rfl
  obtain ⟨v, w, a, b, rfl, ha, hb, hR⟩ := con2_inv h0
  obtain ⟨hl, hR⟩ := bnd_inv hR
  split at hR
  case isFalse => cases hR
  rename_i hall
  cases hR
  have hall := shortT_iff.1 hall
  obtain ⟨vd, vn, cs, vi, vc⟩ := tx ha
  obtain ⟨wd, wn, ds, wi, wc⟩ := tx hb
  refine .go _ rfl rfl ?_
  by_cases hn : a.length = b.length
  · simp [vn, wn, hn]
    refine .up a.length (fun i s => s.env 0 = v ∧ s.env 1 = w ∧ s.env 5 = .int .i64 i ∧ s.toks = [] ∧ s.objs = objs ∧ s.low = objs.length ∧ ∀ j, j < i → nth a j = nth b j) (by simp) ?_
    rintro i s hi ⟨h0, h1, h5, ht, ho, hlo, hj⟩
    rcases Nat.lt_or_ge i a.length with h | h
    · obtain ⟨c, c1, c1', c2⟩ := vc i h
      obtain ⟨d, d1, d1', d2⟩ := wc i (by omega)
      obtain ⟨cd, -⟩ := bs c2
      obtain ⟨dd, -⟩ := bs d2
      have e1 := vi .i64 i (by omega) (by omega)
      have e2 := wi .i64 i (by omega) (by omega)
      rw [Int.toNat_natCast] at e1 e2
      have hL := hall _ (nth_mem h)
      have q1 : ofIntsR .u8 objs c = some (nth a i) := ofIntsR_of c2
      have q2 : ofIntsR .u8 objs d = some (nth b i) := ofIntsR_of d2
      by_cases he : nth a i = nth b i
      · have hs : ∀ j, j < i + 1 → nth a j = nth b j := fun j hj2 => by
          rcases Nat.lt_or_ge j i with h2 | h2
          · exact hj j h2
          · obtain rfl : j = i := by omega
            exact he
        rw [he] at q1 hL
        simp -implicitDefEqProofs (disch := omega) [h0, h1, h5, ht, ho, hlo, vn, wn, e1, e2, c1, c1', d1, d1', cd, dd, h, c_SameR, k_SameR, q1, q2, hL, wrap_small]
        exact hs
      · have hne : a ≠ b := fun q => he (by rw [q])
        simp -implicitDefEqProofs (disch := omega) [h0, h1, h5, ht, ho, hlo, vn, wn, e1, e2, c1, c1', d1, d1', cd, dd, h, c_SameR, k_SameR, q1, q2, hL, he, hne]
    · have hab : a = b := ext_nth hn fun j h2 => hj j (by omega)
      have hnl : ¬ i < b.length := by omega
      simp [h0, h1, h5, ht, ho, hlo, vn, wn, hab, hnl]
  · have hf : ((a.length : Int) != (b.length : Int)) = true := by simp only [bne_iff_ne, ne_eq]; omega
    have hne : a ≠ b := fun q => hn (by rw [q])
    simp [vn, wn, hf, hne])

end Go.Proofs.Ytjjldepikokogaa.B
set_option maxRecDepth 20000
set_option maxHeartbeats 1000000
namespace Go.Proofs.Ytjjldepikokogaa.B
open Go Go.Ab
def AG : Ann := ⟨fun f d => if f = 8 then (annOf [5] [] [] false []).mode f d else if f = 9 then (annOf [] [46,51] [(14, [.ref])] false []).mode f d else if f = 10 then (annOf [] [] [(14, [.ref])] false [30]).mode f d else if f = 11 then (annOf [] [] [] false [31]).mode f d else if f = 12 then (annOf [] [] [] false []).mode f d else if f = 13 then (annOf [] [17] [(6, [.ref])] false []).mode f d else if f = 18 then (annOf [] [] [] true [31]).mode f d else if f = 19 then (annOf [] [] [] false []).mode f d else if f = 20 then (annOf [8] [] [] false []).mode f d else if f = 21 then (annOf [] [5,18] [] false []).mode f d else if f = 22 then (annOf [] [] [] false []).mode f d else if f = 24 then (annOf [] [] [] false []).mode f d else if f = 25 then (annOf [] [11,18] [] false []).mode f d else if f = 26 then (annOf [] [] [] false []).mode f d else if f = 27 then (annOf [] [19] [(9, [.ref])] false []).mode f d else if f = 28 then (annOf [] [4,13,20] [] false []).mode f d else if f = 29 then (annOf [] [] [] false []).mode f d else if f = 30 then (annOf [] [18] [] false []).mode f d else if f = 31 then (annOf [] [] [] false []).mode f d else if f = 32 then (annOf [] [] [] false []).mode f d else if f = 33 then (annOf [] [] [] false []).mode f d else if f = 34 then (annOf [64,72] [] [(65, [.tok])] false []).mode f d else if f = 35 then (annOf [] [] [] false []).mode f d else if f = 37 then (annOf [] [] [] false []).mode f d else if f = 40 then (annOf [5] [] [] false []).mode f d else if f = 41 then (annOf [9] [] [] false []).mode f d else [], fun f => if f = 8 then (annOf [5] [] [] false []).keep f else if f = 9 then (annOf [] [46,51] [(14, [.ref])] false []).keep f else if f = 10 then (annOf [] [] [(14, [.ref])] false [30]).keep f else if f = 11 then (annOf [] [] [] false [31]).keep f else if f = 12 then (annOf [] [] [] false []).keep f else if f = 13 then (annOf [] [17] [(6, [.ref])] false []).keep f else if f = 18 then (annOf [] [] [] true [31]).keep f else if f = 19 then (annOf [] [] [] false []).keep f else if f = 20 then (annOf [8] [] [] false []).keep f else if f = 21 then (annOf [] [5,18] [] false []).keep f else if f = 22 then (annOf [] [] [] false []).keep f else if f = 24 then (annOf [] [] [] false []).keep f else if f = 25 then (annOf [] [11,18] [] false []).keep f else if f = 26 then (annOf [] [] [] false []).keep f else if f = 27 then (annOf [] [19] [(9, [.ref])] false []).keep f else if f = 28 then (annOf [] [4,13,20] [] false []).keep f else if f = 29 then (annOf [] [] [] false []).keep f else if f = 30 then (annOf [] [18] [] false []).keep f else if f = 31 then (annOf [] [] [] false []).keep f else if f = 32 then (annOf [] [] [] false []).keep f else if f = 33 then (annOf [] [] [] false []).keep f else if f = 34 then (annOf [64,72] [] [(65, [.tok])] false []).keep f else if f = 35 then (annOf [] [] [] false []).keep f else if f = 37 then (annOf [] [] [] false []).keep f else if f = 40 then (annOf [5] [] [] false []).keep f else if f = 41 then (annOf [9] [] [] false []).keep f else false, fun g => [18, 30, 31].contains g, fun _ => false⟩
noncomputable def XF : FuncId → Option (List V → List AO → Option V) := fun f => if f = 42 then some (fun a o => resOf (k_bCompare a o)) else none
theorem xok : XOk Try.prog XF := xok_of (T := T_bCompare) T_bCompare_ok (by
  intro f g args objs v h1 h2
  unfold XF at h1
  split at h1
  · rename_i hf; subst hf; cases h1; exact resOf_inv h2
  cases h1)
theorem alive_run : runF Try.prog AG (callA Try.prog AG XF 400) 400 7 Try.f7 [] [] = some (.bool true, none) := by kernel_rfl
def k_alive : Ab.Spec := con0 fun objs => match objs with | [] => some (.bool true, none) | _ => none
noncomputable def T_alive : CallF := withF T_Same10 7 k_alive
theorem T_alive_ok : CallOk Try.prog T_alive := con_by (A := AG) fit T_Same10_ok (callA_ok (A := AG) fit xok 400) (fn := Try.f7) (by kernel_rfl) (by kernel_rfl) (by
  intro args objs r h0
  obtain ⟨rfl, hR⟩ := con0_inv h0
  split at hR <;> cases hR
  exact .run 400 alive_run)

end Go.Proofs.Ytjjldepikokogaa.B
set_option maxRecDepth 20000
set_option maxHeartbeats 1000000
namespace Go.Proofs.Ytjjldepikokogaa.B
open Go Go.Ab
theorem in_int {D M n : Nat} {v : V} {t : TypeId} {k : IntKind} (hu : Try.prog.underlying t = some (.int k)) (hg : Ab.isAgg Try.prog t = false) (h : ShpV Try.prog D M n t v) : ∃ i, v = .int k i ∧ (Lit.int k i).wf = true := by
  unfold ShpV at h
  rw [if_neg (by rw [hg]; simp)] at h
  exact shp_int hu h
theorem wf_u32 {c : Int} (h : (Lit.int .u32 c).wf = true) : 0 ≤ c ∧ c < 4294967296 := by
  simp [Lit.wf, IntKind.min, IntKind.max] at h; omega
theorem wf_u64 {c : Int} (h : (Lit.int .u64 c).wf = true) : 0 ≤ c ∧ c < 18446744073709551616 := by
  simp [Lit.wf, IntKind.min, IntKind.max] at h; omega
theorem wf_i64 {c : Int} (h : (Lit.int .i64 c).wf = true) : -9223372036854775808 ≤ c ∧ c < 9223372036854775808 := by
  simp [Lit.wf, IntKind.min, IntKind.max] at h; omega
theorem flat : laidFlat Try.prog = true := by kernel_rfl

theorem in_texts {D M n : Nat} {v : V} (h : ShpV Try.prog D M n 22 v) : ∃ ss, ofList (ofInts .u8) v = some ss ∧ (∀ s ∈ ss, b8 s = true ∧ s.length ≤ 140737488351232 ∧ (M = 0 ∨ s.length ≤ M)) ∧ ss.length * 24 ≤ 140737488351232 ∧ (M = 0 ∨ ss.length ≤ M) := by
  have hg : Ab.isAgg Try.prog 22 = false := by kernel_rfl
  have hg2 : Ab.isAgg Try.prog 25 = false := by kernel_rfl
  have h2 : Shp Try.prog D M n 22 v := by unfold ShpV at h; rwa [if_neg (by rw [hg]; simp)] at h
  obtain ⟨l, l1, l2, l3, l4⟩ := shp_list (d := ofInts .u8) (R := fun s => b8 s = true ∧ s.length ≤ 140737488351232 ∧ (M = 0 ∨ s.length ≤ M)) u22 hg2 (fun m u hu => by
    obtain ⟨s, s1, s2, s3, s4⟩ := shp_ints u25 u5 hu
    have hb : Try.prog.bytesOf 5 = 1 := by kernel_rfl
    rw [hb] at s3
    exact ⟨s, s1, wf_u8 s2, by omega, s4⟩) h2
  have hb : Try.prog.bytesOf 25 = 24 := by kernel_rfl
  rw [hb] at l3
  exact ⟨l, l1, l2, by omega, l4⟩
noncomputable def k_PrefixEncodes : Ab.Spec := con1 (ofList (ofInts .u8)) fun ss objs => match objs with | [] => bnd (ss.length * 24) 140737488355328 (if shortT ss = true then some (.bool true, none) else none) | _ => none
noncomputable def T_PrefixEncodes : CallF := withF T_alive 3 k_PrefixEncodes
theorem T_PrefixEncodes_ok : CallOk Try.prog T_PrefixEncodes := con_of (A := annOf [] [] [(16, [.ref]),(21, [.ref])] false [11]) fit T_alive_ok (fn := Try.f3) (by kernel_rfl) (by kernel_rfl) (by
  intro args objs r h0
  have c_alive : ∀ a o, T_alive 7 a o = k_alive a o := fun _ _ => rfl
  have c_Copy10 : ∀ a o, T_alive 8 a o = k_Copy10 a o := fun _ _ => rfl
  have c_pEncode : ∀ a o, T_alive 9 a o = k_pEncode a o := fun _ _ => rfl
  have c_rpEncode : ∀ a o, T_alive 10 a o = k_rpEncode a o := fun _ _ => rfl
  have c_Apart : ∀ a o, T_alive 11 a o = k_Apart a o := fun _ _ => rfl
  have c_Same10 : ∀ a o, T_alive 12 a o = k_Same10 a o := fun _ _ => rfl
  obtain ⟨v, ss, rfl, ha, hR⟩ := con1_inv h0
  split at hR
  case h_2 => cases hR
  obtain ⟨hl, hR⟩ := bnd_inv hR
  split at hR
  case isFalse => cases hR
  rename_i hall
  cases hR
  obtain ⟨vd, vn, cs, vi, vc⟩ := tx ha
  have e1 := txV_of (ss := ss) rfl
  have hap0 := apart_nil (u := .nils) rfl
  refine .go _ rfl rfl ?_
  by_cases hb : encBad ss = true
  · simp -implicitDefEqProofs (disch := omega) [c_alive, c_Copy10, c_pEncode, c_rpEncode, c_Apart, c_Same10, k_alive, k_Copy10, k_pEncode, k_rpEncode, hap0, k_Same10, vd, ha, e1, hall, hb, clean]
  · have hb : encBad ss = false := by simpa using hb
    obtain ⟨h1, h2⟩ := not_bad hb
    have hl2 := encT_len h1 ss.length h2
    have hl3 : (encP ss).length ≤ 10 + 220 * ss.length := hl2
    have hpos : 0 < (encP ss).length := by have := M.putL_pos ss.length; simp [encP, encT]; omega
    have e2 : ofInts .u8 (.lst .frozen (ints .u8 (encP ss)) (encP ss).length) = some (encP ss) := ofInts_lst rfl
    have hap := apart_two (n := (encP ss).length) rfl hpos (by omega) e2
    simp -implicitDefEqProofs (disch := omega) [c_alive, c_Copy10, c_pEncode, c_rpEncode, c_Apart, c_Same10, k_alive, k_Copy10, k_pEncode, k_rpEncode, hap, k_Same10, vd, ha, e1, hall, hb, clean])
theorem walk_PrefixEncodes {D M n : Nat} {vs : List V} {args : Array Value} {W : World} (hS : ShpAll Try.prog D M n [22] vs) (hA : AR (top W) W vs args.toList) : Calls Try.prog 3 args W fun e W' => e = .returned (.bool true) ∧ Go.RowKit.Below W.heap.size W W' := by
  match vs, hS with
  | [v0], ⟨s0, _⟩ =>
    obtain ⟨ss, d0, b0, n0, -⟩ := in_texts s0
    have hall : shortT ss = true   := shortT_iff.2 fun s hs => (by have := (b0 s hs).2.1; omega)
    refine whole fit T_PrefixEncodes_ok (fn := Try.f3) (by kernel_rfl) (by kernel_rfl) ?_ hA
    show k_PrefixEncodes [v0] [] = _
    simp (disch := omega) [k_PrefixEncodes, d0, hall]

end Go.Proofs.Ytjjldepikokogaa.B
set_option maxRecDepth 20000
set_option maxHeartbeats 1000000
namespace Go.Proofs.Ytjjldepikokogaa.B
open Go Go.Ab
def isNils : V → Bool | .nils => true | _ => false
theorem srcR {objs : List AO} {v : V} {l : List Int} (h : ofIntsR .u8 objs v = some l) (e : TypeId) : srcOf (.slice e) objs 1 v = some (ints .u8 l) := by
  rcases ofIntsR_inv h with h | ⟨id, ver, off, cs, rfl, hg, hrow, hfit⟩
  · obtain ⟨-, -, -, va, -⟩ := bs h
    exact va objs e
  · simp [srcOf, rowOf, hg, hrow, hfit]
theorem cutR {objs : List AO} {v : V} {l : List Int} (h : ofIntsR .u8 objs v = some l) (lo hi mx : Option V) (a b : Nat) (ha : boundV lo 0 = some a) (hb : boundV hi l.length = some b) (hab : a ≤ b) (hl : b ≤ l.length) (hm : mx = none ∨ hi.isSome = true ∧ boundV mx 0 = some b) :
    ∃ w, (∀ O, cutV Try.prog 25 O v lo hi mx = some w) ∧ ofIntsR .u8 objs w = some ((l.take b).drop a) ∧ isNils w = isNils v ∧ demote w = w ∧ ntup w = some w := by
  have hmx : mx.isNone = true ∨ hi.isSome = true ∧ boundV mx 0 = some b := hm.imp (fun q => by rw [q]; rfl) id
  rcases ofIntsR_inv h with h | ⟨id, ver, off, cs, rfl, hg, hrow, hfit⟩
  · rcases ofInts_inv h with rfl | ⟨rfl, h1, h2⟩
    · refine ⟨.lst .frozen (ints .u8 ((l.take b).drop a)) (b - a), fun O => ?_, ?_, rfl, rfl, rfl⟩
      · simp [-boundV, cutV, sliceV, ha, hb, hab, hl, hmx, ints_take, ints_drop]
        exact fun q => hm.resolve_left q
      · exact ofIntsR_of (ofInts_lst (by simp; omega))
    · have hl0 : l = [] := List.eq_nil_of_length_eq_zero h2
      subst hl0
      obtain rfl : b = 0 := by simpa using hl
      obtain rfl : a = 0 := by omega
      refine ⟨.nils, fun O => ?_, by simp [ofIntsR, ofInts], rfl, rfl, rfl⟩
      have hb0 : boundV hi 0 = some 0 := hb
      simp [-boundV, cutV, sliceV, ha, hb0, hmx]
      exact fun q => hm.resolve_left q
  · refine ⟨.ref id ver (off + a) (b - a) 1, fun O => ?_, ?_, rfl, rfl, rfl⟩
    · simp [-boundV, cutV, sliceV, ha, hb, hab, hl, hmx]
      exact fun q => hm.resolve_left q
    · have e : (cs.drop (off + a)).take (b - a) = ints .u8 ((l.take b).drop a) := by
        rw [← ints_drop, ← ints_take, ← hrow, List.take_take, Nat.min_eq_left hl, List.drop_take, List.drop_drop]
      simp only [ofIntsR, hg, e, ofCellsI_ints, Option.bind_some]
      rw [if_pos ⟨by simp; omega, by omega⟩]
theorem ofIntsR_app {objs m : List AO} {v : V} {l : List Int} (h : ofIntsR .u8 objs v = some l) : ofIntsR .u8 (objs ++ m) v = some l := by
  rcases ofIntsR_inv h with h | ⟨id, ver, off, cs, rfl, hg, hrow, hfit⟩
  · exact ofIntsR_of h
  · have hg2 := getObj_app (m := m) (v := ver) (getObj_lt hg)
    rw [hg] at hg2
    simp only [ofIntsR, hg2, hrow, ofCellsI_ints, Option.bind_some]
    rw [if_pos ⟨trivial, hfit⟩]
noncomputable def k_CloneR : Ab.Spec := con1 some fun v objs => match ofIntsR .u8 objs v with | some l => bnd l.length 140737488355300 (some (if isNils v = true then .nils else .lst (.fresh 1 true) (ints .u8 l) l.length, none)) | none => none
noncomputable def T_CloneR : CallF := withF T_PrefixEncodes 40 k_CloneR
theorem T_CloneR_ok : CallOk Try.prog T_CloneR := con_of (A := annOf [] [5,7] [] false []) fit T_PrefixEncodes_ok (fn := Try.f40) (by kernel_rfl) (by kernel_rfl) (by
  intro args objs r h0
  obtain ⟨v, _, rfl, hv, hR⟩ := con1_inv h0
  cases hv
  split at hR
  case h_2 => cases hR
  rename_i l ha
  obtain ⟨hl, hR⟩ := bnd_inv hR
  cases hR
  obtain ⟨_, vd, vn, -⟩ := bsR ha
  have hsrc := fun m => srcR (objs := objs ++ [.cells [] m]) (v := v) (l := l)
  refine .go _ rfl rfl ?_
  rcases ofIntsR_inv ha with h | ⟨id, ver, off, cs, rfl, hg, hrow, hfit⟩
  · rcases ofInts_inv h with rfl | ⟨rfl, h1, h2⟩
    · simp (disch := omega) [nilFit, nilEq, blit0, Nat.mod_one, isNils]
    · simp [nilFit, nilEq, isNils]
  · have hid := getObj_lt hg
    have hg2 := getObj_app (m := [.cells [] 0]) (v := ver) hid
    rw [hg] at hg2
    simp (disch := omega) [nilFit, nilEq, blit0, Nat.mod_one, isNils, hg2, hrow, hfit])

end Go.Proofs.Ytjjldepikokogaa.B
set_option maxRecDepth 20000
set_option maxHeartbeats 1000000
namespace Go.Proofs.Ytjjldepikokogaa.B
open Go Go.Ab
/-! a text behind the one ahead -/
structure Txt where
  s : List Int
  next : Int
  err : Int
def Txt.bad (e : Int) : Txt := ⟨[], 0, e⟩
def textS (b last : List Int) (k m to : Nat) : List Int := last.take k ++ (b.drop to).take m
def textW (b last : List Int) (whole : Bool) (k m to : Nat) : Txt :=
  if last.length < k ∨ whole = true ∧ 0 < k then .bad 5
  else if 200 < m + k then .bad 4
  else if b.length < to + m then .bad 2
  else if whole = false ∧ sharedN last (textS b last k m to) ≠ k then .bad 5
  else ⟨textS b last k m to, ((to + m : Nat) : Int), 0⟩
def textZ (b last : List Int) (at_ : Int) (whole : Bool) : Txt := match M.getR b at_ with
  | (k, n1, e1) => if e1 ≠ 0 then .bad e1 else match M.getR b n1 with
    | (m, to, e2) => if e2 ≠ 0 then .bad e2 else textW b last whole k.toNat m.toNat to.toNat
theorem textZ_e1 {b last : List Int} {at_ k n1 e1 : Int} {whole : Bool} (h : M.getR b at_ = (k, n1, e1)) (he : e1 ≠ 0) : textZ b last at_ whole = .bad e1 := by
  unfold textZ; rw [h]; simp [he]
theorem textZ_e2 {b last : List Int} {at_ k n1 m to e2 : Int} {whole : Bool} (h : M.getR b at_ = (k, n1, 0)) (h2 : M.getR b n1 = (m, to, e2)) (he : e2 ≠ 0) : textZ b last at_ whole = .bad e2 := by
  unfold textZ; rw [h]; simp [h2, he]
theorem textZ_ok {b last : List Int} {at_ k n1 m to : Int} {whole : Bool} (h : M.getR b at_ = (k, n1, 0)) (h2 : M.getR b n1 = (m, to, 0)) : textZ b last at_ whole = textW b last whole k.toNat m.toNat to.toNat := by
  unfold textZ; rw [h]; simp [h2]
theorem textS_len {b last : List Int} {k m to : Nat} (h1 : k ≤ last.length) (h2 : to + m ≤ b.length) : (textS b last k m to).length = k + m := by
  simp [textS]; omega
theorem shared_ge {last x : List Int} : ∀ {k : Nat}, k ≤ last.length → k ≤ sharedN last (last.take k ++ x) := by
  induction last with
  | nil => intro k h; simp at h; subst h; omega
  | cons a p ih =>
    intro k h
    cases k with
    | zero => omega
    | succ k =>
      have := ih (k := k) (by simpa using h)
      simp only [List.take_succ_cons, List.cons_append, sharedN, if_true]
      omega
def txtV (nil : Bool) (t : Txt) : V := if t.err ≠ 0 then .nils else if nil = true ∧ t.s = [] then .nils else .lst (.fresh 1 true) (ints .u8 t.s) t.s.length
noncomputable def k_ptext : Ab.Spec := con4 (ofInts .u8) (ofInt .i64) some ofBool fun b p lv whole objs => match ofIntsR .u8 objs lv with
  | some last => bnd b.length 140737488352000 (if b8 b = true ∧ last.length ≤ 200 then some (.tup [txtV (isNils lv) (textZ b last p whole), .int .i64 (textZ b last p whole).next, .int .i64 (textZ b last p whole).err], none) else none)
  | none => none
noncomputable def T_ptext : CallF := withF T_CloneR 34 k_ptext
theorem T_ptext_ok : CallOk Try.prog T_ptext := con_of (A := annOf [64,72] [73] [(65, [.ref])] false []) fit T_CloneR_ok (fn := Try.f34) (by kernel_rfl) (by kernel_rfl) (by
  intro args objs r h0
  have c_VGet : ∀ a o, T_CloneR 33 a o = k_VGet a o := fun _ _ => rfl
  have c_CloneR : ∀ a o, T_CloneR 40 a o = k_CloneR a o := fun _ _ => rfl
  have c_shared : ∀ a o, T_CloneR 26 a o = k_shared a o := fun _ _ => rfl
  obtain ⟨v, _, lv, _, b, p, _, whole, rfl, ha, hp, hlv, hw, hR⟩ := con4_inv h0
  obtain rfl := ofInt_inv hp
  cases hlv
  obtain rfl := ofBool_inv hw
  split at hR
  case h_2 => cases hR
  rename_i last hla
  obtain ⟨hl, hR⟩ := bnd_inv hR
  split at hR
  case isFalse => cases hR
  rename_i hc
  obtain ⟨h8, h200⟩ := hc
  cases hR
  have hBy := b8_bytes h8
  obtain ⟨vd, vn, vi, -⟩ := bs ha
  obtain ⟨_, ld, ln, -⟩ := bsR hla
  refine .go _ rfl rfl ?_
  obtain ⟨k, n1, e1, hg1⟩ : ∃ k n1 e1, M.getR b p = (k, n1, e1) := ⟨_, _, _, rfl⟩
  have gv1 : getVR b p = some (.tup [.int .u64 k, .int .i64 n1, .int .i64 e1], none) := by unfold getVR; rw [hg1]
  by_cases he1 : e1 = 0
  case neg =>
    have ht := textZ_e1 (last := last) (whole := whole) hg1 he1
    have he1' : (e1 != 0) = true := by simpa using he1
    simp -implicitDefEqProofs (disch := omega) [vd, ld, ha, c_VGet, k_VGet, h8, gv1, ht, Txt.bad, txtV, he1, he1']
  subst he1
  obtain ⟨g1, g2, g3, g4, g5, g6, g7⟩ := M.getR_ok hBy hg1
  obtain ⟨m, to, e2, hg2⟩ : ∃ m to e2, M.getR b n1 = (m, to, e2) := ⟨_, _, _, rfl⟩
  have gv2 : getVR b n1 = some (.tup [.int .u64 m, .int .i64 to, .int .i64 e2], none) := by unfold getVR; rw [hg2]
  by_cases he2 : e2 = 0
  case neg =>
    have ht := textZ_e2 (last := last) (whole := whole) hg1 hg2 he2
    have he2' : (e2 != 0) = true := by simpa using he2
    simp -implicitDefEqProofs (disch := omega) [vd, ld, ha, c_VGet, k_VGet, h8, gv1, gv2, ht, Txt.bad, txtV, he2, he2']
  subst he2
  obtain ⟨f1, f2, f3, f4, f5, f6, f7⟩ := M.getR_ok hBy hg2
  have ht := textZ_ok (last := last) (whole := whole) hg1 hg2
  obtain ⟨K, rfl⟩ := Int.eq_ofNat_of_zero_le g5
  obtain ⟨m', rfl⟩ := Int.eq_ofNat_of_zero_le f5
  obtain ⟨t', rfl⟩ := Int.eq_ofNat_of_zero_le (show 0 ≤ to by omega)
  simp only [Int.toNat_natCast] at ht
  have wl : IntKind.u64.wrap (last.length : Int) = last.length := wrap_u64 (by omega) (by omega)
  by_cases cA : last.length < K
  · have hW : textW b last whole K m' t' = .bad 5 := by unfold textW; rw [if_pos (.inl cA)]
    rw [hW] at ht
    simp -implicitDefEqProofs (disch := omega) [vd, ld, ln, ha, c_VGet, k_VGet, h8, gv1, gv2, ht, Txt.bad, txtV, convV, wl, cA]
  by_cases cB : whole = true ∧ 0 < K
  · obtain ⟨rfl, cB⟩ := cB
    have hW : textW b last true K m' t' = .bad 5 := by unfold textW; rw [if_pos (.inr ⟨rfl, cB⟩)]
    rw [hW] at ht
    simp -implicitDefEqProofs (disch := omega) [vd, ld, ln, ha, c_VGet, k_VGet, h8, gv1, gv2, ht, Txt.bad, txtV, convV, wl, cA, cB]
  have w2 : IntKind.u64.wrap (200 - (K : Int)) = ((200 - K : Nat) : Int) := by rw [wrap_u64 (by omega) (by omega)]; omega
  have hnc : ¬ (last.length < K ∨ whole = true ∧ 0 < K) := fun q => q.elim cA cB
  by_cases cC : 200 < m' + K
  · have hW : textW b last whole K m' t' = .bad 4 := by unfold textW; rw [if_neg hnc, if_pos cC]
    rw [hW] at ht
    have cC' : ((200 - K : Nat) : Int) < m' := by omega
    have cC2 : 200 - K < m' := by omega
    cases whole with
    | true =>
      have cK : ¬ 0 < K := fun q => cB ⟨rfl, q⟩
      simp -implicitDefEqProofs (disch := omega) [vd, ld, ln, ha, c_VGet, k_VGet, h8, gv1, gv2, ht, Txt.bad, txtV, convV, wl, cA, cK, w2, cC', cC2]
    | false => simp -implicitDefEqProofs (disch := omega) [vd, ld, ln, ha, c_VGet, k_VGet, h8, gv1, gv2, ht, Txt.bad, txtV, convV, wl, cA, w2, cC', cC2]
  have cC2 : ¬ 200 - K < m' := by omega
  have wm : IntKind.i64.wrap (m' : Int) = m' := wrap_small (by omega) (by omega)
  have wbl : IntKind.i64.wrap ((b.length : Int) - t') = ((b.length - t' : Nat) : Int) := by rw [wrap_small (by omega) (by omega)]; omega
  by_cases cD : b.length < t' + m'
  · have hW : textW b last whole K m' t' = .bad 2 := by unfold textW; rw [if_neg hnc, if_neg cC, if_pos cD]
    rw [hW] at ht
    have cD2 : b.length - t' < m' := by omega
    cases whole with
    | true =>
      have cK : ¬ 0 < K := fun q => cB ⟨rfl, q⟩
      simp -implicitDefEqProofs (disch := omega) [vd, ld, ln, ha, c_VGet, k_VGet, h8, gv1, gv2, ht, Txt.bad, txtV, convV, wl, cA, cK, w2, cC2, wm, vn, wbl, cD2]
    | false => simp -implicitDefEqProofs (disch := omega) [vd, ld, ln, ha, c_VGet, k_VGet, h8, gv1, gv2, ht, Txt.bad, txtV, convV, wl, cA, w2, cC2, wm, vn, wbl, cD2]
  have cD2 : ¬ b.length - t' < m' := by omega
  have wtm : IntKind.i64.wrap ((t' : Int) + m') = (t' : Int) + m' := wrap_small (by omega) (by omega)
  obtain ⟨w1, cw1, dw1, nw1, mw1, -⟩ := cutR hla none (some (.int .u64 (K : Int))) none 0 K rfl (by simp [boundV]) (by omega) (by omega) (.inl rfl)
  rw [List.drop_zero] at dw1
  obtain ⟨w2', cw2, dw2⟩ := bcut ha [] (some (.int .i64 (t' : Int))) (some (.int .i64 ((t' : Int) + m'))) t' (t' + m') (by simp [boundV]) (by simp [boundV]; omega) (by omega) (by omega)
  have hdt : (b.take (t' + m')).drop t' = (b.drop t').take m' := by rw [List.drop_take]; congr 1; omega
  rw [hdt] at dw2
  obtain ⟨wd2, -, -, wa2, -⟩ := bs dw2
  have hSl := textS_len (b := b) (last := last) (k := K) (m := m') (to := t') (by omega) (by omega)
  obtain ⟨X, hX⟩ : ∃ X, X = (b.drop t').take m' := ⟨_, rfl⟩
  have hXl : X.length = m' := by rw [hX]; simp; omega
  rw [← hX] at dw2 wa2
  obtain ⟨Y, hY⟩ : ∃ Y, Y = last.take K := ⟨_, rfl⟩
  have hYl : Y.length = K := by rw [hY]; simp; omega
  rw [← hY] at dw1
  have hSX : textS b last K m' t' = Y ++ X := by rw [hX, hY]; rfl
  obtain ⟨S, hS⟩ : ∃ S, S = Y ++ X := ⟨_, rfl⟩
  rw [← hS] at hSX
  have hSl2 : S.length = K + m' := by rw [← hSX]; exact hSl
  rw [hSX] at hSl
  by_cases hnil : isNils lv = true
  · have hlast : last = [] := by
      unfold isNils at hnil; split at hnil
      · cases hla; rfl
      · cases hnil
    have hK0 : K = 0 := by rw [hlast] at cA; simp at cA; exact cA
    have hY0 : Y = [] := List.eq_nil_of_length_eq_zero (by omega)
    rw [hY0, List.nil_append] at hS
    have hlvn : lv = .nils := by
      unfold isNils at hnil; split at hnil
      · rfl
      · cases hnil
    have hw1n : w1 = .nils := by
      rw [hnil] at nw1
      unfold isNils at nw1; split at nw1
      · rfl
      · cases nw1
    subst hlvn
    subst hw1n
    subst hlast
    have hsh : sharedN [] S = 0 := by simp [sharedN]
    have hW : textW b [] whole K m' t' = ⟨S, ((t' + m' : Nat) : Int), 0⟩ := by
      unfold textW
      rw [if_neg hnc, if_neg cC, if_neg cD, hSX, if_neg (fun q => q.2 (by rw [hsh, hK0]))]
    rw [hW] at ht
    have eN : ∀ O, ofIntsR .u8 O V.nils = some [] := fun _ => rfl
    have wz : IntKind.u64.wrap 0 = 0 := rfl
    have wz3 : IntKind.i64.wrap 0 = 0 := rfl
    have w200 : IntKind.u64.wrap 200 = 200 := rfl
    have cw0 : ∀ O, cutV Try.prog 25 O V.nils none (some (.int .u64 0)) none = some .nils := fun O => by have := cw1 O; rw [hK0] at this; exact this
    have cC3 : ¬ (200 : Int) < m' := by omega
    by_cases hz : S = []
    · have hX0 : X = [] := by rw [← hS]; exact hz
      have ey : ints .u8 X = [] := by rw [hX0]; rfl
      have hm0 : m' = 0 := by rw [hX0] at hXl; simpa using hXl.symm
      cases whole with
      | true => simp -implicitDefEqProofs (disch := omega) [vd, ha, c_VGet, k_VGet, h8, gv1, gv2, ht, txtV, convV, wl, cA, hK0, w2, cC2, wm, vn, wbl, cD2, wtm, cw0, cw2, wz, wz3, w200, cC3, c_CloneR, k_CloneR, eN, isNils, wa2, ey, hz]
      | false => simp -implicitDefEqProofs (disch := omega) [vd, ha, c_VGet, k_VGet, h8, gv1, gv2, ht, txtV, convV, wl, cA, hK0, w2, cC2, wm, vn, wbl, cD2, wtm, cw0, cw2, wz, wz3, w200, cC3, c_CloneR, k_CloneR, eN, isNils, wa2, ey, hz, c_shared, k_shared, sharedN]
    · have hX0 : ¬ ints .u8 S = [] := fun q => hz (by have := congrArg List.length q; simp at this; exact this)
      rw [← hS] at wa2
      have eS : ∀ O : List AO, ofIntsR .u8 (O ++ [.cells (ints .u8 S) 0]) (.ref O.length 0 0 S.length 1) = some S := fun O => ofIntsR_ref (by simp) rfl
      cases whole with
      | true => simp -implicitDefEqProofs (disch := omega) [vd, ha, c_VGet, k_VGet, h8, gv1, gv2, ht, txtV, convV, wl, cA, hK0, w2, cC2, wm, vn, wbl, cD2, wtm, cw0, cw2, wz, wz3, w200, cC3, c_CloneR, k_CloneR, eN, isNils, wa2, hX0, hz, Nat.mod_one]
      | false => simp -implicitDefEqProofs (disch := omega) [vd, ha, c_VGet, k_VGet, h8, gv1, gv2, ht, txtV, convV, wl, cA, hK0, w2, cC2, wm, vn, wbl, cD2, wtm, cw0, cw2, wz, wz3, w200, cC3, c_CloneR, k_CloneR, eN, isNils, wa2, hX0, hz, c_shared, k_shared, eS, sharedN, Nat.mod_one]
  · have hnil : isNils lv = false := by simpa using hnil
    rw [hnil] at nw1
    have eA : ∀ m, ofIntsR .u8 (objs ++ m) lv = some last := fun m => ofIntsR_app hla
    have eS : ofIntsR .u8 (objs ++ [.cells (ints .u8 S) 1]) (.ref objs.length 1 0 (K + m') 1) = some S := ofIntsR_ref (by simp) hSl2.symm
    have es : ints .u8 Y ++ ints .u8 X = ints .u8 S := by rw [ints_app, hS]
    have hnn : (0 : Int) ≤ (K : Int) + m' := by omega
    have kw : IntKind.i64.wrap (K : Int) = K := wrap_small (by omega) (by omega)
    cases whole with
    | true =>
      have cK : ¬ 0 < K := fun q => cB ⟨rfl, q⟩
      have hW : textW b last true K m' t' = ⟨S, ((t' + m' : Nat) : Int), 0⟩ := by
        unfold textW
        rw [if_neg hnc, if_neg cC, if_neg cD, hSX, if_neg (fun q => by cases q.1)]
      rw [hW] at ht
      simp -implicitDefEqProofs (disch := omega) [vd, ld, ln, ha, c_VGet, k_VGet, h8, gv1, gv2, ht, txtV, convV, wl, cA, cK, w2, cC2, wm, vn, wbl, cD2, wtm, cw1, cw2, mw1, wd2, c_CloneR, k_CloneR, dw1, nw1, wa2, hYl, hXl, es, Nat.mod_one, hnn, hSl2, hnil]
    | false =>
      by_cases hsh : sharedN last S = K
      · have hW : textW b last false K m' t' = ⟨S, ((t' + m' : Nat) : Int), 0⟩ := by
          unfold textW
          rw [if_neg hnc, if_neg cC, if_neg cD, hSX, if_neg (fun q => q.2 hsh)]
        rw [hW] at ht
        simp -implicitDefEqProofs (disch := omega) [vd, ld, ln, ha, c_VGet, k_VGet, h8, gv1, gv2, ht, txtV, convV, wl, cA, w2, cC2, wm, vn, wbl, cD2, wtm, cw1, cw2, mw1, wd2, c_CloneR, k_CloneR, dw1, nw1, wa2, hYl, hXl, es, Nat.mod_one, hnn, hSl2, hnil, c_shared, k_shared, eA, eS, hsh, kw]
      · have hW : textW b last false K m' t' = .bad 5 := by
          unfold textW
          rw [if_neg hnc, if_neg cC, if_neg cD, hSX, if_pos ⟨rfl, hsh⟩]
        rw [hW] at ht
        have hne : ((sharedN last S : Int) != (K : Int)) = true := by simp only [bne_iff_ne, ne_eq]; omega
        simp -implicitDefEqProofs (disch := omega) [vd, ld, ln, ha, c_VGet, k_VGet, h8, gv1, gv2, ht, Txt.bad, txtV, convV, wl, cA, w2, cC2, wm, vn, wbl, cD2, wtm, cw1, cw2, mw1, wd2, c_CloneR, k_CloneR, dw1, nw1, wa2, hYl, hXl, es, Nat.mod_one, hnn, hSl2, hnil, c_shared, k_shared, eA, eS, hne, kw])

end Go.Proofs.Ytjjldepikokogaa.B

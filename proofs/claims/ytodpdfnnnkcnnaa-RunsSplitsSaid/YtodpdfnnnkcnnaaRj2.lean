import Derived.Test.YtodpdfnnnkcnnaaRj1
set_option linter.unusedSimpArgs false
set_option linter.unusedVariables false
set_option linter.unusedSectionVars false
set_option maxRecDepth 20000
set_option maxHeartbeats 1000000
namespace Go.Proofs.Ytodpdfnnnkcnnaa.B
open Go Go.Ab
/-! a slice behind a pointer -/
theorem getObj_lt {objs : List AO} {i v : Nat} {cs : List V} (h : Ab.getObj objs i v = some cs) : i < objs.length := by
  unfold Ab.getObj at h
  rcases Nat.lt_or_ge i objs.length with q | q
  · exact q
  · rw [List.getElem?_eq_none q] at h; cases h
theorem getObj_set {objs : List AO} {i v : Nat} {cs : List V} (h : i < objs.length) : Ab.getObj (objs.set i (.cells cs v)) i v = some cs := by simp [Ab.getObj, h]
theorem getObj_ne {objs : List AO} {i j v : Nat} {x : AO} (h : i ≠ j) : Ab.getObj (objs.set i x) j v = Ab.getObj objs j v := by simp [Ab.getObj, h]
theorem getObj_app {objs m : List AO} {j v : Nat} (h : j < objs.length) : Ab.getObj (objs ++ m) j v = Ab.getObj objs j v := by simp only [Ab.getObj, List.getElem?_append_left h]
def jl (objs : List AO) (jid : Nat) : Option (List Int) := match Ab.getObj objs jid 0 with
  | some [.nils] => some []
  | some [.ref oid ver 0 n 1] => if jid < oid then match Ab.getObj objs oid ver with | some cs => (ofCellsI .i64 cs).bind fun l => if n = l.length ∧ 0 < n then some l else none | none => none else none
  | _ => none
theorem jl_inv {objs : List AO} {jid : Nat} {l : List Int} (h : jl objs jid = some l) : (l = [] ∧ Ab.getObj objs jid 0 = some [.nils]) ∨ (0 < l.length ∧ ∃ oid ver, jid < oid ∧ Ab.getObj objs jid 0 = some [.ref oid ver 0 l.length 1] ∧ Ab.getObj objs oid ver = some (ints .i64 l)) := by
  unfold jl at h
  split at h
  · rename_i hg; cases h; exact .inl ⟨rfl, hg⟩
  · rename_i oid ver n hg
    split at h
    · rename_i hlt
      split at h
      · rename_i cs hg2
        obtain ⟨m, hm, h⟩ := Option.bind_eq_some_iff.1 h
        split at h
        · rename_i e
          cases h
          obtain ⟨e1, e2⟩ := e
          subst e1
          exact .inr ⟨e2, oid, ver, hlt, hg, by rw [hg2, ofCellsI_inv hm]⟩
        · cases h
      · cases h
    · cases h
  · cases h
theorem jl_ref {objs : List AO} {jid oid ver : Nat} {l : List Int} (h : jid < oid) (h0 : 0 < l.length) (h1 : Ab.getObj objs jid 0 = some [.ref oid ver 0 l.length 1]) (h2 : Ab.getObj objs oid ver = some (ints .i64 l)) : jl objs jid = some l := by
  simp [jl, h1, h2, h, h0]
theorem jl_nil {objs : List AO} {jid : Nat} (h1 : Ab.getObj objs jid 0 = some [.nils]) : jl objs jid = some [] := by simp [jl, h1]
theorem jl_lt {objs : List AO} {jid : Nat} {l : List Int} (h : jl objs jid = some l) : jid < objs.length := by
  rcases jl_inv h with ⟨_, h⟩ | ⟨_, _, _, _, h, _⟩ <;> exact getObj_lt h
theorem jl_app {objs m : List AO} {jid : Nat} {l : List Int} (h : jl objs jid = some l) : jl (objs ++ m) jid = some l := by
  rcases jl_inv h with ⟨rfl, h9⟩ | ⟨h0, oid, ver, h1, h2, h3⟩
  · exact jl_nil (by rw [getObj_app (getObj_lt h9), h9])
  · exact jl_ref h1 h0 (by rw [getObj_app (getObj_lt h2), h2]) (by rw [getObj_app (getObj_lt h3), h3])
def add1 (v : Int) (jid : Nat) (objs : List AO) : List AO := match Ab.getObj objs jid 0 with
  | some [.ref oid ver _ n _] => match Ab.getObj objs oid ver with
    | some cs => (objs.set oid (AO.cells (cs ++ [.int .i64 v]) (ver + 1))).set jid (.cells [.ref oid (ver + 1) 0 (n + 1) 1] 0)
    | none => objs
  | _ => (objs ++ [AO.cells [.int .i64 v] 0]).set jid (.cells [.ref objs.length 0 0 1 1] 0)
theorem add1_jl {objs : List AO} {jid : Nat} {l : List Int} {v : Int} (h : jl objs jid = some l) : jl (add1 v jid objs) jid = some (l ++ [v]) := by
  rcases jl_inv h with ⟨rfl, h9⟩ | ⟨h0, oid, ver, h1, h2, h3⟩
  · have hlt := getObj_lt h9
    simp only [add1, h9]
    refine jl_ref (oid := objs.length) (ver := 0) hlt (by simp) (by rw [getObj_set (by simp; omega)]; rfl) (by rw [getObj_ne (by omega), getObj_last]; rfl)
  · have hlt := getObj_lt h2
    have hlt3 := getObj_lt h3
    simp only [add1, h2, h3]
    refine jl_ref (oid := oid) (ver := ver + 1) h1 (by simp) (by rw [getObj_set (by simp; omega)]; simp) (by rw [getObj_ne (by omega), getObj_set hlt3]; simp [ints])
def addN (v : Int) (jid : Nat) (objs : List AO) : Nat → List AO
  | 0 => objs
  | k + 1 => add1 v jid (addN v jid objs k)
theorem addN_jl {objs : List AO} {jid : Nat} {l : List Int} {v : Int} (h : jl objs jid = some l) : ∀ k, jl (addN v jid objs k) jid = some (l ++ List.replicate k v)
  | 0 => by simp [addN, h]
  | k + 1 => by rw [addN, add1_jl (addN_jl h k), List.append_assoc, ← List.replicate_succ']
theorem add1_len {objs : List AO} {jid : Nat} {v : Int} : objs.length ≤ (add1 v jid objs).length := by
  unfold add1
  split
  · split <;> simp
  · simp
theorem addN_len {objs : List AO} {jid : Nat} {v : Int} : ∀ k, objs.length ≤ (addN v jid objs k).length
  | 0 => Nat.le_refl _
  | k + 1 => Nat.le_trans (addN_len k) add1_len
noncomputable def addR (jid : Nat) (v c : Int) (objs : List AO) : Option Res := match jl objs jid with
  | none => none
  | some l => if 0 < c ∧ c < 18446744073709551616 ∧ l.length ≤ 4096 then
      (if l ≠ [] ∧ nth l (l.length - 1) = v then some (.int .i64 5, some (objs, objs.length)) else if 4096 - (l.length : Int) < c then some (.int .i64 4, some (objs, objs.length)) else some (.int .i64 0, some (addN v jid objs c.toNat, jid))) else none
def ofPtr : V → Option Nat | .ptr jid 0 0 => some jid | _ => none
theorem ofPtr_inv {v : V} {j : Nat} (h : ofPtr v = some j) : v = .ptr j 0 0 := by
  unfold ofPtr at h
  split at h <;> cases h
  rfl
noncomputable def k_add : Ab.Spec := con3 ofPtr (ofInt .i64) (ofInt .u64) addR
noncomputable def T_add : CallF := withF T_SameRuns 33 k_add
theorem T_add_ok : CallOk Try.prog T_add := con_of (A := annOf [] [44] [] true []) fit T_SameRuns_ok (fn := Try.f33) (by kernel_rfl) (by kernel_rfl) (by
  intro args objs r h0
  obtain ⟨_, _, _, jid, v, c, rfl, hj, hb, hc, hR⟩ := con3_inv h0
  obtain rfl := ofPtr_inv hj
  obtain rfl := ofInt_inv hb
  obtain rfl := ofInt_inv hc
  unfold addR at hR
  split at hR
  case h_1 => cases hR
  rename_i l hl
  split at hR
  case isFalse => cases hR
  rename_i hcc
  obtain ⟨hc0, hc1, hll⟩ := hcc
  refine .goK _ rfl rfl rfl ?_
  have w1 : IntKind.i64.wrap (4096 - (l.length : Int)) = 4096 - (l.length : Int) := wrap_small (by omega) (by omega)
  have w2 : IntKind.u64.wrap (4096 - (l.length : Int)) = 4096 - (l.length : Int) := wrap_u64 (by omega) (by omega)
  have w3 : IntKind.i64.wrap ((l.length : Int) - 1) = (l.length : Int) - 1 := wrap_small (by omega) (by omega)
  have z1 : IntKind.i64.wrap 4096 = 4096 := rfl
  have w01 : IntKind.u64.wrap 1 = 1 := rfl
  have z2 : IntKind.u64.wrap 4096 = 4096 := rfl
  by_cases hlast : l ≠ [] ∧ nth l (l.length - 1) = v
  · rw [if_pos hlast] at hR
    cases hR
    obtain ⟨hne, hv⟩ := hlast
    rcases jl_inv hl with ⟨q, _⟩ | ⟨p0, oid, ver, p1, p2, p3⟩
    · exact absurd q hne
    have e0 := (ints_nth (k := .i64) (l := l) (i := l.length - 1) (by omega))
    have e := of_get e0
    have ei : ((l.length : Int) - 1).toNat = l.length - 1 := by omega
    have hb1 : (1 : Int) ≤ l.length ∧ (l.length : Int) - 1 < l.length := by omega
    simp -implicitDefEqProofs (disch := omega) [p0, p2, p3, w3, e0, e, ei, hv, hb1]
  rw [if_neg hlast] at hR
  by_cases hbig : 4096 - (l.length : Int) < c
  · rw [if_pos hbig] at hR
    cases hR
    rcases jl_inv hl with ⟨rfl, p2⟩ | ⟨p0, oid, ver, p1, p2, p3⟩
    · have hb' : (4096 : Int) < c := by simpa using hbig
      simp -implicitDefEqProofs (disch := omega) [p2, z1, z2, convV, hb']
    · have hv : (nth l (l.length - 1) == v) = false := by
        have : l ≠ [] := by intro q; rw [q] at p0; simp at p0
        simpa using fun z => hlast ⟨this, z⟩
      have e0 := (ints_nth (k := .i64) (l := l) (i := l.length - 1) (by omega))
      have e := of_get e0
      have ei : ((l.length : Int) - 1).toNat = l.length - 1 := by omega
      have hb1 : (1 : Int) ≤ l.length ∧ (l.length : Int) - 1 < l.length := by omega
      simp -implicitDefEqProofs (disch := omega) [p0, p2, p3, w1, w2, w3, e0, e, ei, hv, convV, hbig, hb1]
  rw [if_neg hbig] at hR
  cases hR
  obtain ⟨N, rfl⟩ := Int.eq_ofNat_of_zero_le (show 0 ≤ c by omega)
  have hjl := jl_lt hl
  rcases jl_inv hl with ⟨rfl, p2⟩ | ⟨p0, oid, ver, p1, p2, p3⟩
  · have hb' : ¬ (4096 : Int) < (N : Int) := by simpa using hbig
    simp -implicitDefEqProofs (disch := omega) [p2, z1, z2, convV, hb']
    refine .up N (fun i s => s.env 0 = .ptr jid 0 0 ∧ s.env 1 = .int .i64 v ∧ s.env 34 = .int .u64 N ∧ s.env 35 = .int .u64 i ∧ s.toks = [] ∧ s.objs = addN v jid objs i ∧ s.low = if i = 0 then objs.length else jid) (by simp [addN]) ?_
    rintro i s hi ⟨g0, g1, g34, g35, ht, ho, hlo⟩
    rcases Nat.lt_or_ge i N with h | h
    · have wi : IntKind.u64.wrap ((i : Int) + 1) = (i : Int) + 1 := wrap_u64 (by omega) (by omega)
      have hJ := addN_jl (v := v) hl i
      have hol := addN_len (objs := objs) (jid := jid) (v := v) i
      have e1 : addN v jid objs (i + 1) = add1 v jid (addN v jid objs i) := rfl
      have h00 : addN v jid objs 0 = objs := rfl
      rcases jl_inv hJ with ⟨q0, q2⟩ | ⟨q0, oi, ve, q1, q2, q3⟩
      · have hi0 : i = 0 := by
          have := congrArg List.length q0
          simp at this
          omega
        subst hi0
        rw [h00] at q2 ho e1
        simp only [add1, q2] at e1
        have hg := getObj_app (m := [AO.cells [.int .i64 v] 0]) (v := 0) (getObj_lt q2)
        rw [q2] at hg
        simp -implicitDefEqProofs (disch := omega) [g0, g1, g34, g35, ht, ho, hlo, q2, hg, e1, nlit1, setCells, hjl, w01]
        exact h
      · obtain ⟨L, hL⟩ : ∃ L, L = ([] : List Int) ++ List.replicate i v := ⟨_, rfl⟩
        have hLl : L.length = ([] : List Int).length + i := by rw [hL]; simp
        have hLl2 : L.length = i := by rw [hL]; simp
        rw [← hL] at q0 q2 q3
        obtain ⟨O, hO⟩ : ∃ O, O = addN v jid objs i := ⟨_, rfl⟩
        rw [← hO] at q2 q3 ho e1 hol
        have es : ints .i64 L ++ [.int .i64 v] = ints .i64 (L ++ [v]) := by simp [ints]
        simp only [add1, q2, q3, es] at e1
        have hg := getObj_ne (objs := O) (x := AO.cells (ints .i64 (L ++ [v])) (ve + 1)) (v := 0) (show oi ≠ jid by omega)
        rw [q2] at hg
        have l3 := getObj_lt q3
        have hN1 : i < N := h
        have hlow : (if jid < (if oi < s.low then oi else s.low) then jid else (if oi < s.low then oi else s.low)) = jid := by
          rw [hlo]
          by_cases hi0 : i = 0
          · rw [if_pos hi0]; subst hi0; rw [h00] at hO; rw [hO] at l3; rw [if_pos l3, if_pos q1]
          · rw [if_neg hi0]; rw [if_neg (show ¬ oi < jid by omega), if_neg (by omega)]
        simp -implicitDefEqProofs (disch := omega) [g0, g1, g34, g35, ht, ho, q2, q3, hg, e1, nlit1, setCells, hlow, hN1]
        exact wi
    · obtain rfl : i = N := by omega
      have hN0 : i ≠ 0 := by omega
      simp -implicitDefEqProofs (disch := omega) [g0, g1, g34, g35, ht, ho, hlo, hN0]
  · have hv : (nth l (l.length - 1) == v) = false := by
      have : l ≠ [] := by intro q; rw [q] at p0; simp at p0
      simpa using fun z => hlast ⟨this, z⟩
    have e0 := (ints_nth (k := .i64) (l := l) (i := l.length - 1) (by omega))
    have e := of_get e0
    have ei : ((l.length : Int) - 1).toNat = l.length - 1 := by omega
    have hb1 : (1 : Int) ≤ l.length ∧ (l.length : Int) - 1 < l.length := by omega
    simp -implicitDefEqProofs (disch := omega) [p0, p2, p3, w1, w2, w3, e0, e, ei, hv, convV, hbig, hb1]
    refine .up N (fun i s => s.env 0 = .ptr jid 0 0 ∧ s.env 1 = .int .i64 v ∧ s.env 34 = .int .u64 N ∧ s.env 35 = .int .u64 i ∧ s.toks = [] ∧ s.objs = addN v jid objs i ∧ s.low = if i = 0 then objs.length else jid) (by simp [addN]) ?_
    rintro i s hi ⟨g0, g1, g34, g35, ht, ho, hlo⟩
    rcases Nat.lt_or_ge i N with h | h
    · have wi : IntKind.u64.wrap ((i : Int) + 1) = (i : Int) + 1 := wrap_u64 (by omega) (by omega)
      have hJ := addN_jl (v := v) hl i
      have hol := addN_len (objs := objs) (jid := jid) (v := v) i
      have e1 : addN v jid objs (i + 1) = add1 v jid (addN v jid objs i) := rfl
      have h00 : addN v jid objs 0 = objs := rfl
      rcases jl_inv hJ with ⟨q0, q2⟩ | ⟨q0, oi, ve, q1, q2, q3⟩
      · have hi0 : i = 0 := by
          have := congrArg List.length q0
          simp at this
          omega
        subst hi0
        rw [h00] at q2 ho e1
        simp only [add1, q2] at e1
        have hg := getObj_app (m := [AO.cells [.int .i64 v] 0]) (v := 0) (getObj_lt q2)
        rw [q2] at hg
        simp -implicitDefEqProofs (disch := omega) [g0, g1, g34, g35, ht, ho, hlo, q2, hg, e1, nlit1, setCells, hjl, w01]
        exact h
      · obtain ⟨L, hL⟩ : ∃ L, L = l ++ List.replicate i v := ⟨_, rfl⟩
        have hLl : L.length = l.length + i := by rw [hL]; simp
        rw [← hL] at q0 q2 q3
        obtain ⟨O, hO⟩ : ∃ O, O = addN v jid objs i := ⟨_, rfl⟩
        rw [← hO] at q2 q3 ho e1 hol
        have es : ints .i64 L ++ [.int .i64 v] = ints .i64 (L ++ [v]) := by simp [ints]
        simp only [add1, q2, q3, es] at e1
        have hg := getObj_ne (objs := O) (x := AO.cells (ints .i64 (L ++ [v])) (ve + 1)) (v := 0) (show oi ≠ jid by omega)
        rw [q2] at hg
        have l3 := getObj_lt q3
        have hN1 : i < N := h
        have hlow : (if jid < (if oi < s.low then oi else s.low) then jid else (if oi < s.low then oi else s.low)) = jid := by
          rw [hlo]
          by_cases hi0 : i = 0
          · rw [if_pos hi0]; subst hi0; rw [h00] at hO; rw [hO] at l3; rw [if_pos l3, if_pos q1]
          · rw [if_neg hi0]; rw [if_neg (show ¬ oi < jid by omega), if_neg (by omega)]
        simp -implicitDefEqProofs (disch := omega) [g0, g1, g34, g35, ht, ho, q2, q3, hg, e1, nlit1, setCells, hlow, hN1]
        exact wi
    · obtain rfl : i = N := by omega
      have hN0 : i ≠ 0 := by omega
      simp -implicitDefEqProofs (disch := omega) [g0, g1, g34, g35, ht, ho, hlo, hN0])

end Go.Proofs.Ytodpdfnnnkcnnaa.B

import Derived.Test.YtnbgmclbbkfhhaaDoorScB
import Derived.Test.YtnbgmclbbkfhhaaDoorAb33
set_option linter.unusedSimpArgs false
set_option linter.unusedVariables false
set_option linter.unusedSectionVars false
set_option maxRecDepth 20000
set_option maxHeartbeats 1000000
namespace Go.Proofs.YtnbgmclbbkfhhaaDoor.B
open Go Go.Ab
/-! names: strings.Trim by a set of bytes -/
def tabB (l : List Int) : List V := (List.range 256).map fun i : Nat => .bool (l.contains (i : Int))
theorem tabB_len (l : List Int) : (tabB l).length = 256 := by simp [tabB]
theorem tabB_get (l : List Int) {c : Int} (h0 : 0 ≤ c) (h1 : c < 256) : (tabB l)[c.toNat]? = some (.bool (l.contains c)) := by
  unfold tabB
  rw [List.getElem?_map, List.getElem?_range (by omega)]
  simp only [Option.map_some]
  rw [show ((c.toNat : Nat) : Int) = c by omega]
theorem tabB_set (l : List Int) {c : Int} (h0 : 0 ≤ c) (h1 : c < 256) : setCells (tabB l) c.toNat [.bool true] = tabB (l ++ [c]) := by
  obtain ⟨n, rfl⟩ := Int.eq_ofNat_of_zero_le h0
  have hn : n < 256 := by omega
  refine List.ext_getElem? fun j => ?_
  have e : setCells (tabB l) (n : Int).toNat [.bool true] = (tabB l).set n (.bool true) := by
    rw [Int.toNat_natCast, List.set_eq_take_append_cons_drop, if_pos (by rw [tabB_len]; exact hn)]
    simp [setCells]
  rw [e]
  by_cases hj : j = n
  · subst hj
    rw [List.getElem?_set_self (by rw [tabB_len]; exact hn)]
    simp [tabB, hn]
  · rw [List.getElem?_set_ne (Ne.symm hj)]
    unfold tabB
    rw [List.getElem?_map, List.getElem?_map]
    rcases Nat.lt_or_ge j 256 with q | q
    · rw [List.getElem?_range q]
      have : ¬ (j : Int) = n := by omega
      simp [this]
    · rw [List.getElem?_eq_none (by simpa using q)]; rfl
theorem tabB_refs (l : List Int) (b : Nat) : norefs b (tabB l) = true := norefs_iff.2 fun v hv => by
  obtain ⟨s, -, rfl⟩ := List.mem_map.1 hv
  rfl
theorem tabB_one (l : List Int) : (tabB l).all oneCell = true := List.all_eq_true.2 fun v hv => by
  obtain ⟨s, -, rfl⟩ := List.mem_map.1 hv
  rfl
theorem tabB_zero : tabB [] = List.replicate 256 (.bool false) := by
  unfold tabB
  rw [List.eq_replicate_iff]
  simp
theorem vset : zeroV Tryd.prog 124 = some (tabB []) := by rw [tabB_zero]; kernel_rfl
theorem set_all {l l' : List Int} : setCells (tabB l) 0 (tabB l') = tabB l' := by
  have h1 := tabB_len l
  have h2 := tabB_len l'
  unfold setCells
  rw [List.drop_of_length_le (by omega)]
  simp
theorem take_tab {l : List Int} : (tabB l).take 256 = tabB l := List.take_of_length_le (by rw [tabB_len]; omega)
def low7 (l : List Int) : Bool := l.all fun c => decide (c < 128)
theorem low7_iff {l : List Int} : low7 l = true ↔ ∀ c ∈ l, c < 128 := by simp [low7]
noncomputable def k_asciiSet : Ab.Spec := con1 ofStr fun s _ => bnd (strL s).length 140737488355328 (if low7 (strL s) = true then some (.tup [.agg (tabB (strL s)), .bool true], none) else none)
noncomputable def T_asciiSet : CallF := withF T_rCGet 88 k_asciiSet
theorem T_asciiSet_ok : CallOk Tryd.prog T_asciiSet := con_of (A := annOf [] [] [] false []) fit T_rCGet_ok (fn := Tryd.f88) (by kernel_rfl) (by kernel_rfl) (by
  intro args objs r h0
  obtain ⟨_, s, rfl, hs, hR⟩ := con1_inv h0
  obtain rfl := ofStr_inv hs
  obtain ⟨hl, hR⟩ := bnd_inv hR
  split at hR
  case isFalse => cases hR
  rename_i h7
  cases hR
  have h7 := low7_iff.1 h7
  have hn := str_len u9 s
  obtain ⟨l, hL⟩ : ∃ l, l = strL s := ⟨_, rfl⟩
  have hB : ∀ c ∈ l, 0 ≤ c ∧ c < 256 := by rw [hL]; exact strL_byte
  have hi := fun k i h0 h1 => str_index (s := s) u9 k (i := i) h0 h1
  rw [← hL] at hl h7 hn hi
  refine .go _ rfl rfl ?_
  simp -implicitDefEqProofs [vset]
  refine .up l.length (fun i z => z.env 0 = .str s ∧ z.env 2 = .ptr objs.length 0 0 ∧ z.env 4 = .int .i64 i ∧ z.toks = [] ∧ z.objs = objs ++ [.cells (tabB (l.take i)) 0] ∧ z.low = objs.length) (by simp) ?_
  rintro i z hi2 ⟨h0, h2, h4, ht, ho, hlo⟩
  rcases Nat.lt_or_ge i l.length with h | h
  · have e1 := hi .i64 i (by omega) (by omega)
    rw [Int.toNat_natCast] at e1
    have e := take_nth h
    obtain ⟨c, hc⟩ : ∃ c, c = nth l i := ⟨_, rfl⟩
    obtain ⟨c0, c1⟩ := hB _ (nth_mem h)
    have c2 := h7 _ (nth_mem h)
    rw [← hc] at e1 e c0 c1 c2
    have c3 : c ≤ 255 := by omega
    have hst := tabB_set (l.take i) c0 c1
    rw [← e] at hst
    have hlen := tabB_len (l.take i)
    simp -implicitDefEqProofs (disch := omega) [h0, h2, h4, ht, ho, hlo, hn, e1, h, c0, c1, c3, hst, hlen, wrap_small]
  · obtain rfl : i = l.length := by omega
    rw [List.take_length] at ho
    have hlen := tabB_len l
    have hr := tabB_refs l objs.length
    have h1 := tabB_one l
    simp -implicitDefEqProofs (disch := omega) [h0, h2, h4, ht, ho, hlo, hn, hlen, take_tab, set_all, hr, h1, ← hL])
def nameSet : List Int := [97, 98, 99, 100, 101, 102, 103, 104, 105, 106, 107, 108, 109, 110, 111, 112, 113, 114, 115, 116, 117, 118, 119, 120, 121, 122, 48, 49, 50, 51, 52, 53, 54, 55, 56, 57, 95]
def nameC (c : Int) : Bool := nameSet.contains c
def rtr (l : List Int) : List Int := (l.reverse.dropWhile nameC).reverse
def ltr (l : List Int) : List Int := l.dropWhile nameC
theorem rtr_snoc (l : List Int) (c : Int) : rtr (l ++ [c]) = if nameC c = true then rtr l else l ++ [c] := by
  unfold rtr
  rw [List.reverse_append, List.reverse_singleton, List.singleton_append, List.dropWhile_cons]
  split <;> simp
theorem ltr_cons (l : List Int) (c : Int) : ltr (c :: l) = if nameC c = true then ltr l else c :: l := by
  unfold ltr; rw [List.dropWhile_cons]
theorem dropWhile_nil {p : Int → Bool} : ∀ {l : List Int}, l.dropWhile p = [] ↔ l.all p = true
  | [] => by simp
  | c :: l => by
    rw [List.dropWhile_cons, List.all_cons]
    cases h : p c
    · simp
    · simpa using dropWhile_nil (p := p) (l := l)
theorem trim_nil (l : List Int) : ltr (rtr l) = [] ↔ l.all nameC = true := by
  unfold ltr
  rw [dropWhile_nil]
  induction hn : l.length generalizing l with
  | zero => rw [List.eq_nil_of_length_eq_zero hn]; simp [rtr]
  | succ n ih =>
    obtain ⟨m, c, rfl⟩ : ∃ m c, l = m ++ [c] := ⟨l.dropLast, l.getLast (by intro q; rw [q] at hn; cases hn), (List.dropLast_concat_getLast _).symm⟩
    rw [rtr_snoc]
    split
    · rename_i h
      rw [ih m (by simpa using hn)]
      simp [h]
    · rfl
theorem rtr_sub (l : List Int) : ∀ c ∈ rtr l, c ∈ l := fun c hc => by
  unfold rtr at hc
  rw [List.mem_reverse] at hc
  exact List.mem_reverse.1 ((List.dropWhile_sublist _).subset hc)
theorem rtr_len (l : List Int) : (rtr l).length ≤ l.length := by
  unfold rtr
  have := (List.dropWhile_sublist (l := l.reverse) nameC).length_le
  simpa using this
theorem ltr_sub (l : List Int) : ∀ c ∈ ltr l, c ∈ l := fun c hc => (List.dropWhile_sublist _).subset hc
noncomputable def k_asciiHas : Ab.Spec := con2 some (ofInt .u8) fun v c objs => match v with | .ptr id ver 0 => pre ((0 ≤ c ∧ c < 256) ∧ Ab.getObj objs id ver = some (tabB nameSet)) (some (.bool (nameC c), none)) | _ => none
noncomputable def T_asciiHas : CallF := withF T_asciiSet 97 k_asciiHas
theorem T_asciiHas_ok : CallOk Tryd.prog T_asciiHas := con_of (A := annOf [] [] [] false []) fit T_asciiSet_ok (fn := Tryd.f97) (by kernel_rfl) (by kernel_rfl) (by
  intro args objs r h0
  obtain ⟨v, _, _, c, rfl, hv, hc, hR⟩ := con2_inv h0
  cases hv
  obtain rfl := ofInt_inv hc
  split at hR
  case h_2 => cases hR
  rename_i id ver
  obtain ⟨⟨⟨c0, c1⟩, hg⟩, hR⟩ := pre_inv hR
  cases hR
  have e := tabB_get nameSet c0 c1
  have e' := of_get e
  have hlen := tabB_len nameSet
  have c2 : c.toNat < 256 := by omega
  refine .go _ rfl rfl ?_
  simp -implicitDefEqProofs (disch := omega) [c0, c1, c2, hg, e, e', hlen, nameC])
noncomputable def k_trimR : Ab.Spec := con2 ofStr some fun s v objs => match v with | .ptr id ver 0 => bnd (strL s).length 140737488355328 (pre (Ab.getObj objs id ver = some (tabB nameSet)) (some (.str (strOfNums (rtr (strL s))), none))) | _ => none
noncomputable def T_trimR : CallF := withF T_asciiHas 90 k_trimR
theorem T_trimR_ok : CallOk Tryd.prog T_trimR := con_of (A := annOf [] [] [] false []) fit T_asciiHas_ok (fn := Tryd.f90) (by kernel_rfl) (by kernel_rfl) (by
  intro args objs r h0
  have c_asciiHas : ∀ a o, T_asciiHas 97 a o = k_asciiHas a o := fun _ _ => rfl
  obtain ⟨_, v, s, _, rfl, hs, hv, hR⟩ := con2_inv h0
  obtain rfl := ofStr_inv hs
  cases hv
  split at hR
  case h_2 => cases hR
  rename_i id ver
  obtain ⟨hl, hR⟩ := bnd_inv hR
  obtain ⟨hg, hR⟩ := pre_inv hR
  cases hR
  obtain ⟨l, hL⟩ : ∃ l, l = strL s := ⟨_, rfl⟩
  have hB : ∀ c ∈ l, 0 ≤ c ∧ c < 256 := by rw [hL]; exact strL_byte
  have hs2 : s = strOfNums l := by rw [hL, nums_strL]
  rw [← hL] at hl
  rw [← hL, hs2]
  refine .go _ rfl rfl ?_
  simp -implicitDefEqProofs
  refine .dn l.length (fun n z => ∃ m : List Int, m.length = n ∧ (∀ c ∈ m, 0 ≤ c ∧ c < 256) ∧ rtr m = rtr l ∧ n < 140737488355328 ∧ z.env 0 = .str (strOfNums m) ∧ z.env 1 = .ptr id ver 0 ∧ z.toks = [] ∧ z.objs = objs ∧ z.low = objs.length) ⟨l, rfl, hB, rfl, hl, by simp, by simp, rfl, rfl, rfl⟩ ?_
  rintro n z ⟨m, rfl, hm, hr, hmn, h0, h1, ht, ho, hlo⟩
  have em := strL_nums hm
  have hn := str_len (P := Tryd.prog) u9 (strOfNums m)
  rw [em] at hn
  have hi := fun k i h0 h1 => str_index (P := Tryd.prog) (s := strOfNums m) u9 k (i := i) h0 h1
  rw [em] at hi
  rcases Nat.eq_zero_or_pos m.length with hz | hz
  · have hm0 := List.eq_nil_of_length_eq_zero hz
    have hrl : rtr l = m := by rw [← hr, hm0]; rfl
    simp -implicitDefEqProofs (disch := omega) [h0, h1, ht, ho, hlo, hn, hz, hrl]
  · obtain ⟨p, c, hpc⟩ : ∃ p c, m = p ++ [c] := ⟨m.dropLast, m.getLast (by intro q; rw [q] at hz; cases hz), (List.dropLast_concat_getLast _).symm⟩
    have hlen : m.length = p.length + 1 := by rw [hpc]; simp
    have e1 := hi .i64 ((m.length : Int) - 1) (by omega) (by omega)
    have hnc : nth m ((m.length : Int) - 1).toNat = c := by
      rw [show ((m.length : Int) - 1).toNat = p.length by omega, hpc, nth_app_r (Nat.le_refl _), Nat.sub_self]; rfl
    rw [hnc] at e1
    obtain ⟨c0, c1⟩ := hm c (by rw [hpc]; simp)
    have w1 : IntKind.i64.wrap ((m.length : Int) - 1) = (m.length : Int) - 1 := wrap_small (by omega) (by omega)
    have hcut := str_cut (P := Tryd.prog) (s := strOfNums m) u9 objs none (some (.int .i64 ((m.length : Int) - 1))) 0 (m.length - 1) rfl (by simp [boundV]; omega) (by omega) (by rw [em]; omega)
    rw [em, show m.length - 1 = p.length by omega] at hcut
    have htk : (m.take p.length).drop 0 = p := by rw [hpc]; simp
    rw [htk] at hcut
    have hrs := rtr_snoc p c
    rw [← hpc, hr] at hrs
    have hz0 : (0 : Int) < (m.length : Int) := by omega
    by_cases hc : nameC c = true
    · rw [if_pos hc] at hrs
      simp -implicitDefEqProofs (disch := omega) [h0, h1, ht, ho, hlo, hn, hz, hz0, w1, e1, c_asciiHas, k_asciiHas, pre_pos, c0, c1, hg, hc, hcut]
      exact ⟨p.length, by omega, p, rfl, fun d hd => hm d (by rw [hpc]; simp [hd]), hrs.symm, by omega, rfl⟩
    · rw [if_neg hc] at hrs
      have hc : nameC c = false := by simpa using hc
      simp -implicitDefEqProofs (disch := omega) [h0, h1, ht, ho, hlo, hn, hz, hz0, w1, e1, c_asciiHas, k_asciiHas, pre_pos, c0, c1, hg, hc, hrs])
noncomputable def k_trimL : Ab.Spec := con2 ofStr some fun s v objs => match v with | .ptr id ver 0 => bnd (strL s).length 140737488355328 (pre (Ab.getObj objs id ver = some (tabB nameSet)) (some (.str (strOfNums (ltr (strL s))), none))) | _ => none
noncomputable def T_trimL : CallF := withF T_trimR 89 k_trimL
theorem T_trimL_ok : CallOk Tryd.prog T_trimL := con_of (A := annOf [] [] [] false []) fit T_trimR_ok (fn := Tryd.f89) (by kernel_rfl) (by kernel_rfl) (by
  intro args objs r h0
  have c_asciiHas : ∀ a o, T_trimR 97 a o = k_asciiHas a o := fun _ _ => rfl
  obtain ⟨_, v, s, _, rfl, hs, hv, hR⟩ := con2_inv h0
  obtain rfl := ofStr_inv hs
  cases hv
  split at hR
  case h_2 => cases hR
  rename_i id ver
  obtain ⟨hl, hR⟩ := bnd_inv hR
  obtain ⟨hg, hR⟩ := pre_inv hR
  cases hR
  obtain ⟨l, hL⟩ : ∃ l, l = strL s := ⟨_, rfl⟩
  have hB : ∀ c ∈ l, 0 ≤ c ∧ c < 256 := by rw [hL]; exact strL_byte
  have hs2 : s = strOfNums l := by rw [hL, nums_strL]
  rw [← hL] at hl
  rw [← hL, hs2]
  refine .go _ rfl rfl ?_
  simp -implicitDefEqProofs
  refine .dn l.length (fun n z => ∃ m : List Int, m.length = n ∧ (∀ c ∈ m, 0 ≤ c ∧ c < 256) ∧ ltr m = ltr l ∧ n < 140737488355328 ∧ z.env 0 = .str (strOfNums m) ∧ z.env 1 = .ptr id ver 0 ∧ z.toks = [] ∧ z.objs = objs ∧ z.low = objs.length) ⟨l, rfl, hB, rfl, hl, by simp, by simp, rfl, rfl, rfl⟩ ?_
  rintro n z ⟨m, rfl, hm, hr, hmn, h0, h1, ht, ho, hlo⟩
  have em := strL_nums hm
  have hn := str_len (P := Tryd.prog) u9 (strOfNums m)
  rw [em] at hn
  have hi := fun k i h0 h1 => str_index (P := Tryd.prog) (s := strOfNums m) u9 k (i := i) h0 h1
  rw [em] at hi
  rcases Nat.eq_zero_or_pos m.length with hz | hz
  · have hm0 := List.eq_nil_of_length_eq_zero hz
    have hrl : ltr l = m := by rw [← hr, hm0]; rfl
    simp -implicitDefEqProofs (disch := omega) [h0, h1, ht, ho, hlo, hn, hz, hrl]
  · obtain ⟨c, p, hpc⟩ : ∃ c p, m = c :: p := by
      cases m with
      | nil => exact absurd hz (by simp)
      | cons c p => exact ⟨c, p, rfl⟩
    have hlen : m.length = p.length + 1 := by rw [hpc]; simp
    have e1 := hi .i64 0 (by omega) (by omega)
    have hnc : nth m (0 : Int).toNat = c := by rw [hpc]; rfl
    rw [hnc] at e1
    obtain ⟨c0, c1⟩ := hm c (by rw [hpc]; simp)
    have hcut := str_cut (P := Tryd.prog) (s := strOfNums m) u9 objs (some (.int .i64 1)) none 1 m.length rfl (by rw [em]; rfl) (by omega) (by rw [em]; omega)
    rw [em] at hcut
    have htk : (m.take m.length).drop 1 = p := by rw [List.take_length, hpc]; rfl
    rw [htk] at hcut
    have hrs := ltr_cons p c
    rw [← hpc, hr] at hrs
    have hz0 : (0 : Int) < (m.length : Int) := by omega
    by_cases hc : nameC c = true
    · rw [if_pos hc] at hrs
      simp -implicitDefEqProofs (disch := omega) [h0, h1, ht, ho, hlo, hn, hz, hz0, e1, c_asciiHas, k_asciiHas, pre_pos, c0, c1, hg, hc, hcut]
      exact ⟨p.length, by omega, p, rfl, fun d hd => hm d (by rw [hpc]; simp [hd]), hrs.symm, by omega, rfl⟩
    · rw [if_neg hc] at hrs
      have hc : nameC c = false := by simpa using hc
      have hrs' : ltr l = m := hrs
      simp -implicitDefEqProofs (disch := omega) [h0, h1, ht, ho, hlo, hn, hz, hz0, e1, c_asciiHas, k_asciiHas, pre_pos, c0, c1, hg, hc, hrs'])
theorem lit_set : strL { data := #[97, 98, 99, 100, 101, 102, 103, 104, 105, 106, 107, 108, 109, 110, 111, 112, 113, 114, 115, 116, 117, 118, 119, 120, 121, 122, 48, 49, 50, 51, 52, 53, 54, 55, 56, 57, 95] } = nameSet := by rfl
theorem lit_empty : strL { data := #[] } = [] := rfl
def nameOk (l : List Int) : Bool := decide (1 ≤ l.length) && decide (l.length ≤ 24) && l.all nameC
noncomputable def k_Trim : Ab.Spec := con2 ofStr ofStr fun s c _ => bnd (strL s).length 140737488355328 (if strL c = nameSet then some (.str (strOfNums (ltr (rtr (strL s)))), none) else none)
noncomputable def T_Trim : CallF := withF T_trimL 73 k_Trim
theorem T_Trim_ok : CallOk Tryd.prog T_Trim := con_of (A := annOf [] [] [] false []) fit T_trimL_ok (fn := Tryd.f73) (by kernel_rfl) (by kernel_rfl) (by
  intro args objs r h0
  have c_asciiSet : ∀ a o, T_trimL 88 a o = k_asciiSet a o := fun _ _ => rfl
  have c_trimR : ∀ a o, T_trimL 90 a o = k_trimR a o := fun _ _ => rfl
  have c_trimL : ∀ a o, T_trimL 89 a o = k_trimL a o := fun _ _ => rfl
  obtain ⟨_, _, s, c, rfl, hs, hc, hR⟩ := con2_inv h0
  obtain rfl := ofStr_inv hs
  obtain rfl := ofStr_inv hc
  obtain ⟨hl, hR⟩ := bnd_inv hR
  split at hR
  case isFalse => cases hR
  rename_i hset
  cases hR
  have hn := str_len (P := Tryd.prog) u9 c
  have hns : nameSet.length = 37 := rfl
  rw [hset, hns] at hn
  have h7 : low7 nameSet = true := by rfl
  have hne : nameSet = [] ↔ False := by simp [nameSet]
  have hlen := tabB_len nameSet
  have h1 := tabB_one nameSet
  refine .go _ rfl rfl ?_
  by_cases hz : strL s = []
  · have hv : s = strOfNums (ltr (rtr (strL s))) := by rw [hz]; exact strL_inj (by rw [hz]; rfl)
    simp -implicitDefEqProofs (disch := omega) [str_isEmpty, str_beq, lit_empty, hz]
    rw [hz] at hv
    exact hv
  · have hB2 : ∀ c ∈ rtr (strL s), 0 ≤ c ∧ c < 256 := fun c hc => strL_byte c (rtr_sub _ c hc)
    have e2 := strL_nums hB2
    have hl2 := rtr_len (strL s)
    simp -implicitDefEqProofs (disch := omega) [str_isEmpty, str_beq, lit_empty, hz, hset, hne, hn, c_asciiSet, k_asciiSet, h7, hns, vset, tabB_len, tabB_one, set_all, take_tab, c_trimR, k_trimR, c_trimL, k_trimL, e2])
noncomputable def k_badName : Ab.Spec := con1 ofStr fun s _ => bnd (strL s).length 140737488355328 (some (.bool (!nameOk (strL s)), none))
noncomputable def T_badName : CallF := withF T_Trim 52 k_badName
theorem T_badName_ok : CallOk Tryd.prog T_badName := con_of (A := annOf [] [] [] false []) fit T_Trim_ok (fn := Tryd.f52) (by kernel_rfl) (by kernel_rfl) (by
  intro args objs r h0
  have c_Trim : ∀ a o, T_Trim 73 a o = k_Trim a o := fun _ _ => rfl
  obtain ⟨_, s, rfl, hs, hR⟩ := con1_inv h0
  obtain rfl := ofStr_inv hs
  obtain ⟨hl, hR⟩ := bnd_inv hR
  cases hR
  have hn := str_len (P := Tryd.prog) u9 s
  have hB2 : ∀ c ∈ ltr (rtr (strL s)), 0 ≤ c ∧ c < 256 := fun c hc => strL_byte c (rtr_sub _ c (ltr_sub _ c hc))
  have e2 := strL_nums hB2
  have ht := trim_nil (strL s)
  refine .go _ rfl rfl ?_
  by_cases hz : strL s = []
  · have hk : nameOk (strL s) = false := by rw [hz]; rfl
    simp -implicitDefEqProofs (disch := omega) [str_isEmpty, str_beq, lit_empty, hz]
    rw [hz] at hk
    exact hk
  have hz2 : 1 ≤ (strL s).length := List.length_pos_iff.2 hz
  by_cases h24 : (strL s).length ≤ 24
  · have hk : nameOk (strL s) = (strL s).all nameC := by simp [nameOk, hz2, h24]
    have h24' : ¬ 24 < (strL s).length := by omega
    rw [hk]
    by_cases ha : (strL s).all nameC = true
    · have := ht.2 ha
      simp -implicitDefEqProofs (disch := omega) [str_isEmpty, str_beq, lit_empty, hz, hn, h24', c_Trim, k_Trim, lit_set, hl, e2, this, ha, show strL (strOfNums []) = [] from rfl]
    · have h3 : ¬ ltr (rtr (strL s)) = [] := fun q => ha (ht.1 q)
      have ha : (strL s).all nameC = false := by simpa using ha
      simp -implicitDefEqProofs (disch := omega) [str_isEmpty, str_beq, lit_empty, hz, hn, h24', c_Trim, k_Trim, lit_set, hl, e2, h3, ha]
  · have hk : nameOk (strL s) = false := by simp [nameOk, h24]
    have h24' : 24 < (strL s).length := by omega
    simp -implicitDefEqProofs (disch := omega) [str_isEmpty, str_beq, lit_empty, hz, hn, h24', hk])

end Go.Proofs.YtnbgmclbbkfhhaaDoor.B
set_option maxRecDepth 20000
set_option maxHeartbeats 1000000
namespace Go.Proofs.YtnbgmclbbkfhhaaDoor.B
open Go Go.Ab
/-! schemas -/
structure Co where
  nm : ByteArray
  k : Int
  n : Bool
instance : Inhabited Co := ⟨⟨ByteArray.empty, 0, false⟩⟩
def coV (c : Co) : List V := [.str c.nm, .int .i64 c.k, .bool c.n]
def coD : List V → Option Co
  | [.str s, .int .i64 k, .bool n] => some ⟨s, k, n⟩
  | _ => none
theorem coV_len (c : Co) : (coV c).length = 3 := rfl
theorem coD_coV (c : Co) : coD (coV c) = some c := rfl
theorem coD_inv (x : List V) (c : Co) (h : coD x = some c) : x = coV c := by
  unfold coD at h; split at h <;> cases h; rfl
def namesM (l : List Co) : List (V × V) := l.map fun c => (.str c.nm, .bool true)
theorem find_names (s : ByteArray) : ∀ (l : List Co) (i : Nat), ∃ r, findV .string (.str s) (namesM l) i = some r ∧ (l.any (fun c => decide (strL c.nm = strL s)) = false → r = none) ∧ (l.any (fun c => decide (strL c.nm = strL s)) = true → ∃ j, r = some (j, .bool true))
  | [], i => ⟨none, rfl, fun _ => rfl, fun h => by simp at h⟩
  | c :: l, i => by
    have e : namesM (c :: l) = (.str c.nm, .bool true) :: namesM l := rfl
    rw [e, List.any_cons]
    unfold findV
    simp only [keyEq, str_key]
    by_cases h : strL s = strL c.nm
    · rw [decide_eq_true h, decide_eq_true h.symm]
      exact ⟨_, rfl, fun h => by simp at h, fun _ => ⟨i, rfl⟩⟩
    · rw [decide_eq_false h, decide_eq_false (fun q => h q.symm), Bool.false_or]
      exact find_names s l (i + 1)
theorem zbool : zval Tryd.prog 4 = some (.bool false) := by kernel_rfl
theorem key_str (s : ByteArray) : keyOk .string (.str s) = true := rfl
theorem look_names {O : List AO} {m : Nat} {l : List Co} (hg : getMap O m = some (namesM l)) (s : ByteArray) : lookupV Tryd.prog 90 (.map m) (.str s) false O = some (.bool (l.any fun c => decide (strL c.nm = strL s))) := by
  obtain ⟨r, h1, h2, h3⟩ := find_names s l 0
  unfold lookupV
  simp only [u90, rowMap, hg, u9, key_str, if_true, h1, zbool]
  cases ha : l.any fun c => decide (strL c.nm = strL s) with
  | false => rw [h2 ha]; rfl
  | true => obtain ⟨j, e⟩ := h3 ha; rw [e]; rfl
theorem upd_names {O : List AO} {m base low : Nat} {l : List Co} {c : Co} (hg : getMap O m = some (namesM l)) (ha : l.any (fun d => decide (strL d.nm = strL c.nm)) = false) : updateV Tryd.prog 90 (.map m) (.str c.nm) (.bool true) base O low = some (.undef, O.set m (.map (namesM (l ++ [c]))), if m < low then m else low) := by
  obtain ⟨r, h1, h2, h3⟩ := find_names c.nm l 0
  have hr := h2 ha
  subst hr
  unfold updateV
  simp only [u90, hg, u9, h1, key_str]
  rw [if_pos ⟨trivial, fun _ => rfl⟩]
  simp [putMap, namesM]
/-- A box and a map behind it. -/
def BoxM (n : Nat) (sv : List V) (es : List (V × V)) (O : List AO) : Prop := Ab.getObj O n 0 = some sv ∧ getMap O (n + 1) = some es
theorem getMap_lt {O : List AO} {m : Nat} {es : List (V × V)} (h : getMap O m = some es) : m < O.length := by
  unfold getMap at h
  split at h
  · rename_i c hg; exact (List.getElem?_eq_some_iff.1 hg).1
  · cases h
theorem getMap_app {O X : List AO} {m : Nat} (h : m < O.length) : getMap (O ++ X) m = getMap O m := by unfold getMap; rw [List.getElem?_append_left h]
theorem BoxM.app {n : Nat} {sv : List V} {es : List (V × V)} {O : List AO} (h : BoxM n sv es O) (X : List AO) : BoxM n sv es (O ++ X) :=
  ⟨by rw [getObj_app (getObj_lt h.1)]; exact h.1, by rw [getMap_app (getMap_lt h.2)]; exact h.2⟩
theorem BoxM.upd {n : Nat} {sv : List V} {es : List (V × V)} {O : List AO} (h : BoxM n sv es O) (es' : List (V × V)) : BoxM n sv es' (O.set (n + 1) (.map es')) :=
  ⟨by rw [getObj_set_ne (by omega)]; exact h.1, by have := getMap_lt h.2; simp [getMap, this]⟩
def colOk (cols : List Co) (K : Int) (i : Nat) : Bool :=
  nameOk (strL (nth cols i).nm) && (decide (1 ≤ (nth cols i).k) && decide ((nth cols i).k ≤ 8)) && !(decide ((i : Int) < K) && (nth cols i).n) && !((cols.take i).any fun d => decide (strL d.nm = strL (nth cols i).nm))
def headOk (cols : List Co) (K : Int) : Bool := decide (1 ≤ cols.length) && decide (cols.length ≤ 12) && decide (1 ≤ K) && decide (K ≤ 3) && decide (K ≤ cols.length)
def schemaOk (cols : List Co) (K : Int) : Bool := headOk cols K && (List.range cols.length).all (colOk cols K)
theorem schema_bad {cols : List Co} {K : Int} {i : Nat} (h : i < cols.length) (hc : colOk cols K i = false) : schemaOk cols K = false := by
  unfold schemaOk
  rw [Bool.and_eq_false_iff]
  right
  rw [Bool.eq_false_iff]
  intro q
  rw [List.all_eq_true] at q
  have := q i (by simpa using h)
  rw [hc] at this; cases this
theorem schema_good {cols : List Co} {K : Int} (hh : headOk cols K = true) (h : ∀ i, i < cols.length → colOk cols K i = true) : schemaOk cols K = true := by
  unfold schemaOk
  rw [hh, Bool.true_and, List.all_eq_true]
  intro i hi
  exact h i (by simpa using hi)
def chkR (cols : List Co) (K : Int) : Int := if schemaOk cols K = true then 0 else 60
theorem chk_bad {cols : List Co} {K : Int} (h : schemaOk cols K = false) : chkR cols K = 60 := if_neg (by rw [h]; simp)
theorem chk_good {cols : List Co} {K : Int} (h : schemaOk cols K = true) : chkR cols K = 0 := if_pos h
theorem chk_head {cols : List Co} {K : Int} (h : headOk cols K = false) : chkR cols K = 60 := chk_bad (by unfold schemaOk; rw [h]; rfl)
/-- A list of columns, and what it is handed with. -/
theorem colsV {objs : List AO} {v : V} {cols : List Co} (h : recR coD 3 objs v = some cols) : RowV objs 3 v (flatV coV cols) cols.length := recR_inv coV_len coD_inv h
theorem col_f1 (v : V) (cs : List V) (j : Nat) : fieldAddrV Tryd.prog 89 (ptAt v cs j) 1 = some (ptAt v cs (j + 1)) := by cases v <;> simp [ptAt, fieldAddrV, Nat.add_assoc]
theorem col_f2 (v : V) (cs : List V) (j : Nat) : fieldAddrV Tryd.prog 89 (ptAt v cs j) 2 = some (ptAt v cs (j + 2)) := by cases v <;> simp [ptAt, fieldAddrV, Nat.add_assoc]
theorem col_f0 (v : V) (cs : List V) (j : Nat) : fieldAddrV Tryd.prog 89 (ptAt v cs j) 0 = some (ptAt v cs j) := by cases v <;> simp [ptAt, fieldAddrV]
theorem col_get {objs : List AO} {v : V} {cols : List Co} (h : RowV objs 3 v (flatV coV cols) cols.length) {i : Nat} (hi : i < cols.length) :
    loadV Tryd.prog 89 objs (ptAt v (flatV coV cols) (i * 3)) = some (.agg (coV (nth cols i))) ∧ loadV Tryd.prog 9 objs (ptAt v (flatV coV cols) (i * 3)) = some (.str (nth cols i).nm) ∧
    loadV Tryd.prog 3 objs (ptAt v (flatV coV cols) (i * 3 + 1)) = some (.int .i64 (nth cols i).k) ∧ loadV Tryd.prog 4 objs (ptAt v (flatV coV cols) (i * 3 + 2)) = some (.bool (nth cols i).n) := by
  have hf := flatV_fit coV_len hi
  refine ⟨?_, ?_, ?_, ?_⟩
  · rw [h.agg (n := 3) g89 hf, flatV_at coV_len hi]
  · exact h.get g9 (x := .str (nth cols i).nm) (by have := flatV_get (j := 0) coV_len hi (by omega); simpa [coV] using this)
  · exact h.get g3 (x := .int .i64 (nth cols i).k) (by have := flatV_get (j := 1) coV_len hi (by omega); simpa [coV] using this)
  · exact h.get g4 (x := .bool (nth cols i).n) (by have := flatV_get (j := 2) coV_len hi (by omega); simpa [coV] using this)
theorem coV_refs (cols : List Co) (b : Nat) : norefs b (flatV coV cols) = true := norefs_iff.2 fun v hv => by
  obtain ⟨c, -, h⟩ := List.mem_flatMap.1 hv
  simp only [coV, List.mem_cons, List.not_mem_nil, or_false] at h
  rcases h with rfl | rfl | rfl <;> rfl
def short24 (cols : List Co) : Bool := cols.all fun c => decide ((strL c.nm).length < 140737488355328)
noncomputable def k_schCheck : Ab.Spec := con1 some fun s objs => match s with
  | .agg [v, .int .i64 K] => match recR coD 3 objs v with
    | some cols => bnd cols.length 140737488355328 (if short24 cols = true then some (.int .i64 (chkR cols K), none) else none)
    | none => none
  | _ => none
noncomputable def T_schCheck : CallF := withF T_badName 12 k_schCheck
theorem T_schCheck_ok : CallOk Tryd.prog T_schCheck := con_of (A := annOf [] [] [] false []) fit T_badName_ok (fn := Tryd.f12) (by kernel_rfl) (by kernel_rfl) (by
  intro args objs r h0
  have c_badName : ∀ a o, T_badName 52 a o = k_badName a o := fun _ _ => rfl
  obtain ⟨s, _, rfl, hs, hR⟩ := con1_inv h0
  cases hs
  split at hR
  case h_2 => cases hR
  rename_i v K
  split at hR
  case h_2 => cases hR
  rename_i cols hc
  obtain ⟨hl, hR⟩ := bnd_inv hR
  split at hR
  case isFalse => cases hR
  rename_i hsh
  cases hR
  have hsh : ∀ c ∈ cols, (strL c.nm).length < 140737488355328 := by simpa [short24] using hsh
  have hv := colsV hc
  have vd := hv.dem
  have vn := hv.size (P := Tryd.prog) u22
  have vo := hv.one
  have vdf := hv.isDef
  have vc := hv.cells
  have vnr := hv.noref (Nat.le_refl _) (coV_refs cols objs.length)
  have vi := hv.idx (P := Tryd.prog) u22 z89
  refine .go _ rfl rfl ?_
  by_cases h1 : cols.length < 1
  · have hg : chkR cols K = 60 := chk_head (by unfold headOk; rw [decide_eq_false (p := 1 ≤ cols.length) (by omega)]; rfl)
    simp -implicitDefEqProofs (disch := omega) [vd, vn, h1, hg]
  by_cases h2 : 12 < cols.length
  · have hg : chkR cols K = 60 := chk_head (by unfold headOk; rw [decide_eq_false (p := cols.length ≤ 12) (by omega)]; simp)
    simp -implicitDefEqProofs (disch := omega) [vd, vn, h1, h2, hg]
  by_cases h3 : K < 1
  · have hg : chkR cols K = 60 := chk_head (by unfold headOk; rw [decide_eq_false (p := 1 ≤ K) (by omega)]; simp)
    simp -implicitDefEqProofs (disch := omega) [vd, vn, h1, h2, h3, hg]
  obtain ⟨mn, hmn⟩ : ∃ mn : Int, mn = if (cols.length : Int) < 3 then (cols.length : Int) else 3 := ⟨_, rfl⟩
  by_cases h4 : mn < K
  · have hg : chkR cols K = 60 := chk_head (by
      unfold headOk
      by_cases q : (cols.length : Int) < 3
      · rw [if_pos q] at hmn; rw [decide_eq_false (p := K ≤ (cols.length : Int)) (by omega)]; simp
      · rw [if_neg q] at hmn; rw [decide_eq_false (p := K ≤ 3) (by omega)]; simp)
    simp -implicitDefEqProofs (disch := omega) [vd, vn, h1, h2, h3, ← hmn, h4, hg]
  have hh : headOk cols K = true := by
    unfold headOk
    simp only [Bool.and_eq_true, decide_eq_true_eq]
    split at hmn <;> omega
  have hmt : isMapT Tryd.prog 90 = true := by kernel_rfl
  simp -implicitDefEqProofs (disch := omega) [vd, vn, h1, h2, h3, ← hmn, h4, hmt]
  obtain ⟨I, hI⟩ : ∃ I : Nat → St → Prop, I = (fun (i : Nat) (z : St) => z.env 1 = .ptr objs.length 0 0 ∧ z.env 3 = .map (objs.length + 1) ∧ z.env 33 = v ∧ z.env 34 = .int .i64 cols.length ∧ z.env 35 = .int .i64 i ∧ z.toks = [] ∧ z.low = objs.length ∧
    BoxM objs.length [v, .int .i64 K] (namesM (cols.take i)) z.objs ∧ Old objs z.objs ∧ ∀ j, j < i → colOk cols K j = true) := ⟨_, rfl⟩
  refine .up cols.length I (by rw [hI]; exact ⟨by simp, by simp, by simp, by simp, by simp, rfl, rfl, ⟨by simp, by simp [namesM]⟩, Old.ext _ _, fun j hj => absurd hj (by omega)⟩) ?_
  intro i z hi hz
  rw [hI] at hz
  obtain ⟨e1, e3, e33, e34, e35, ht, hlo, hbox, hold, hpre⟩ := hz
  obtain ⟨O, ho⟩ : ∃ O, O = z.objs := ⟨_, rfl⟩
  rw [← ho] at hbox hold
  have ho := ho.symm
  rcases Nat.lt_or_ge i cols.length with h | h
  case inr =>
    obtain rfl : i = cols.length := by omega
    have hg : chkR cols K = 0 := chk_good (schema_good hh hpre)
    simp -implicitDefEqProofs (disch := omega) [e1, e3, e33, e34, e35, ht, ho, hlo, hg]
  have hOl : objs.length < O.length := getObj_lt hbox.1
  have hOl2 : ¬ O.length < objs.length := by omega
  obtain ⟨c, hcc⟩ : ∃ c, c = nth cols i := ⟨_, rfl⟩
  have hcl := hsh _ (nth_mem h)
  have ix := vi .i64 i (by omega) (by omega)
  rw [Int.toNat_natCast] at ix
  have hbox2 := fun X => hbox.app X
  obtain ⟨b1, b2⟩ := hbox
  have b1' := fun X => (hbox2 X).1
  have b2' := fun X => (hbox2 X).2
  obtain ⟨g1, -⟩ := col_get (hv.old hold) h
  obtain ⟨nm, k, nl⟩ := c
  rw [← hcc] at g1 hcl
  have hst : setCells [V.str ByteArray.empty, .int .i64 0, .bool false] 0 (coV ⟨nm, k, nl⟩) = coV ⟨nm, k, nl⟩ := rfl
  have hcol : colOk cols K i = (nameOk (strL nm) && (decide (1 ≤ k) && decide (k ≤ 8)) && !(decide ((i : Int) < K) && nl) && !((cols.take i).any fun d => decide (strL d.nm = strL nm))) := by unfold colOk; rw [← hcc]
  have bad : colOk cols K i = false → chkR cols K = 60 := fun q => chk_bad (schema_bad h q)
  obtain ⟨dup, hdup⟩ : ∃ dup, dup = (cols.take i).any fun d => decide (strL d.nm = strL nm) := ⟨_, rfl⟩
  have hlk := fun X => look_names (b2' X) nm
  simp only [← hdup] at hlk
  rw [← hdup] at hcol
  by_cases k1 : k < 1
  · have hg := bad (by rw [hcol, decide_eq_false (p := 1 ≤ k) (by omega)]; simp)
    cases hn : nameOk (strL nm) <;> cases hd : dup <;> rw [hd] at hlk <;>
      simp -implicitDefEqProofs (disch := omega) [e1, e3, e33, e34, e35, ht, ho, hlo, h, ix, b1, b2, b1', b2', c_badName, k_badName, hcl, hOl2, g1, coV, setCells, k1, hn, hlk, hg]
  by_cases k8 : 8 < k
  · have hg := bad (by rw [hcol, decide_eq_false (p := k ≤ 8) (by omega)]; simp)
    cases hn : nameOk (strL nm) <;> cases hd : dup <;> rw [hd] at hlk <;>
      simp -implicitDefEqProofs (disch := omega) [e1, e3, e33, e34, e35, ht, ho, hlo, h, ix, b1, b2, b1', b2', c_badName, k_badName, hcl, hOl2, g1, coV, setCells, k1, k8, hn, hlk, hg]
  rw [decide_eq_true (p := 1 ≤ k) (by omega), decide_eq_true (p := k ≤ 8) (by omega), Bool.and_true, Bool.and_true] at hcol
  cases hn : nameOk (strL nm) with
  | false =>
    have hg := bad (by rw [hcol, hn]; rfl)
    simp -implicitDefEqProofs (disch := omega) [e1, e3, e33, e34, e35, ht, ho, hlo, h, ix, b1, b2, b1', b2', c_badName, k_badName, hcl, hOl2, g1, coV, setCells, k1, k8, hn, hlk, hg]
  | true =>
  rw [hn, Bool.true_and] at hcol
  cases hd : dup with
  | true =>
    have hg := bad (by rw [hcol, hd]; simp)
    rw [hd] at hlk
    simp -implicitDefEqProofs (disch := omega) [e1, e3, e33, e34, e35, ht, ho, hlo, h, ix, b1, b2, b1', b2', c_badName, k_badName, hcl, hOl2, g1, coV, setCells, k1, k8, hn, hlk, hg]
  | false =>
  rw [hd] at hlk hcol
  have hup := fun X base low => upd_names (base := base) (low := low) (c := ⟨nm, k, nl⟩) (b2' X) (by rw [← hdup, hd])
  have etk : cols.take i ++ [⟨nm, k, nl⟩] = cols.take (i + 1) := by rw [take_nth h, ← hcc]
  simp only [etk] at hup
  have hbx := fun X => (hbox2 X).upd (namesM (cols.take (i + 1)))
  have hod := fun X => (hold.app X).set (i := objs.length + 1) (x := .map (namesM (cols.take (i + 1)))) (by omega)
  have fin : colOk cols K i = true → ∀ j, j < i + 1 → colOk cols K j = true := fun q j hj => by
    rcases Nat.lt_or_ge j i with hj2 | hj2
    · exact hpre j hj2
    · obtain rfl : j = i := by omega
      exact q
  by_cases hK : (i : Int) < K
  · cases nl with
    | true =>
      have hg := bad (by rw [hcol, decide_eq_true hK]; rfl)
      simp -implicitDefEqProofs (disch := omega) [e1, e3, e33, e34, e35, ht, ho, hlo, h, ix, b1, b2, b1', b2', c_badName, k_badName, hcl, hOl2, g1, coV, setCells, k1, k8, hn, hlk, hK, hg]
    | false =>
      have hf := fin (by rw [hcol]; simp)
      simp -implicitDefEqProofs (disch := omega) [e1, e3, e33, e34, e35, ht, ho, hlo, h, ix, b1, b2, b1', b2', c_badName, k_badName, hcl, hOl2, g1, coV, setCells, k1, k8, hn, hlk, hK, hup, wrap_small]
      rw [hI]
      exact ⟨by simp [e1], by simp [e3], by simp [e33], by simp [e34], by simp, rfl, by simp, hbx _, hod _, hf⟩
  · have hf := fin (by rw [hcol, decide_eq_false hK]; simp)
    simp -implicitDefEqProofs (disch := omega) [e1, e3, e33, e34, e35, ht, ho, hlo, h, ix, b1, b2, b1', b2', c_badName, k_badName, hcl, hOl2, g1, coV, setCells, k1, k8, hn, hlk, hK, hup, wrap_small]
    rw [hI]
    exact ⟨by simp [e1], by simp [e3], by simp [e33], by simp [e34], by simp, rfl, by simp, hbx _, hod _, hf⟩)

end Go.Proofs.YtnbgmclbbkfhhaaDoor.B
set_option maxRecDepth 20000
set_option maxHeartbeats 1000000
namespace Go.Proofs.YtnbgmclbbkfhhaaDoor.B
open Go Go.Ab
theorem nameC_iff {c : Int} (h0 : 0 ≤ c) (h1 : c < 256) : nameC c = (decide (97 ≤ c ∧ c ≤ 122) || decide (48 ≤ c ∧ c ≤ 57) || decide (c = 95)) := by
  obtain ⟨n, rfl⟩ := Int.eq_ofNat_of_zero_le h0
  have hn : n < 256 := by omega
  have : ∀ m : Fin 256, nameC ((m.val : Nat) : Int) = (decide (97 ≤ ((m.val : Nat) : Int) ∧ ((m.val : Nat) : Int) ≤ 122) || decide (48 ≤ ((m.val : Nat) : Int) ∧ ((m.val : Nat) : Int) ≤ 57) || decide (((m.val : Nat) : Int) = 95)) := by decide +kernel
  exact this ⟨n, hn⟩
theorem all_false {l : List Int} {p : Int → Bool} {i : Nat} (h : i < l.length) (hp : p (nth l i) = false) : l.all p = false := by
  rw [Bool.eq_false_iff]
  intro q
  rw [List.all_eq_true] at q
  have := q _ (nth_mem h)
  rw [hp] at this; cases this
theorem all_true {l : List Int} {p : Int → Bool} (h : ∀ i, i < l.length → p (nth l i) = true) : l.all p = true := by
  rw [List.all_eq_true]
  intro c hc
  obtain ⟨j, hj, e⟩ := List.getElem_of_mem hc
  have := h j hj
  rwa [nth_lt hj, e] at this
noncomputable def k_rName : Ab.Spec := con1 ofStr fun s _ => bnd (strL s).length 140737488355328 (some (.bool (nameOk (strL s)), none))
noncomputable def T_rName : CallF := withF T_schCheck 53 k_rName
theorem T_rName_ok : CallOk Tryd.prog T_rName := con_of (A := annOf [] [] [] false []) fit T_schCheck_ok (fn := Tryd.f53) (by kernel_rfl) (by kernel_rfl) (by
  intro args objs r h0
  obtain ⟨_, s, rfl, hs, hR⟩ := con1_inv h0
  obtain rfl := ofStr_inv hs
  obtain ⟨hl, hR⟩ := bnd_inv hR
  cases hR
  have hn := str_len (P := Tryd.prog) u9 s
  have hi := fun k i h0 h1 => str_index (P := Tryd.prog) (s := s) u9 k (i := i) h0 h1
  obtain ⟨l, hL⟩ : ∃ l, l = strL s := ⟨_, rfl⟩
  have hB : ∀ c ∈ l, 0 ≤ c ∧ c < 256 := by rw [hL]; exact strL_byte
  rw [← hL] at hl hn hi
  rw [← hL]
  refine .go _ rfl rfl ?_
  by_cases h1 : l.length < 1
  · have hk : nameOk l = false := by unfold nameOk; rw [decide_eq_false (p := 1 ≤ l.length) (by omega)]; rfl
    simp -implicitDefEqProofs (disch := omega) [hn, h1, hk]
  by_cases h2 : 24 < l.length
  · have hk : nameOk l = false := by unfold nameOk; rw [decide_eq_false (p := l.length ≤ 24) (by omega)]; simp
    simp -implicitDefEqProofs (disch := omega) [hn, h1, h2, hk]
  have hk : nameOk l = l.all nameC := by unfold nameOk; rw [decide_eq_true (p := 1 ≤ l.length) (by omega), decide_eq_true (p := l.length ≤ 24) (by omega)]; simp
  rw [hk]
  simp -implicitDefEqProofs (disch := omega) [hn, h1, h2]
  obtain ⟨I, hI⟩ : ∃ I : Nat → St → Prop, I = (fun (i : Nat) (z : St) => z.env 0 = .str s ∧ z.env 3 = .int .i64 i ∧ z.toks = [] ∧ z.objs = objs ∧ z.low = objs.length ∧ ∀ j, j < i → nameC (nth l j) = true) := ⟨_, rfl⟩
  refine .up l.length I (by rw [hI]; exact ⟨by simp, by simp, rfl, rfl, rfl, fun j hj => absurd hj (by omega)⟩) ?_
  intro i z hi2 hz
  rw [hI] at hz
  obtain ⟨e0, e3, ht, ho, hlo, hpre⟩ := hz
  rcases Nat.lt_or_ge i l.length with h | h
  case inr =>
    obtain rfl : i = l.length := by omega
    have ha := all_true hpre
    simp -implicitDefEqProofs (disch := omega) [e0, e3, ht, ho, hlo, hn, ha]
  have ix := hi .i64 i (by omega) (by omega)
  rw [Int.toNat_natCast] at ix
  obtain ⟨c, hc⟩ : ∃ c, c = nth l i := ⟨_, rfl⟩
  obtain ⟨c0, c1⟩ := hB _ (nth_mem h)
  rw [← hc] at ix c0 c1
  have hC := nameC_iff c0 c1
  have bad : nameC c = false → l.all nameC = false := fun q => all_false h (by rw [← hc]; exact q)
  have fin : nameC c = true → I (i + 1) z → True := fun _ _ => trivial
  have good : nameC c = true → ∀ j, j < i + 1 → nameC (nth l j) = true := fun q j hj => by
    rcases Nat.lt_or_ge j i with hj2 | hj2
    · exact hpre j hj2
    · obtain rfl : j = i := by omega
      rw [← hc]; exact q
  have w1 : IntKind.i64.wrap ((i : Int) + 1) = (i : Int) + 1 := wrap_small (by omega) (by omega)
  by_cases a1 : 97 ≤ c
  · by_cases a2 : c ≤ 122
    · have hg := good (by rw [hC, decide_eq_true (p := 97 ≤ c ∧ c ≤ 122) ⟨a1, a2⟩]; rfl)
      simp -implicitDefEqProofs (disch := omega) [e0, e3, ht, ho, hlo, hn, h, ix, a1, a2, w1, hI]
      exact hg
    · have hg := bad (by rw [hC, decide_eq_false (p := 97 ≤ c ∧ c ≤ 122) (by omega), decide_eq_false (p := 48 ≤ c ∧ c ≤ 57) (by omega), decide_eq_false (p := c = 95) (by omega)]; rfl)
      have b1 : 48 ≤ c := by omega
      have b2 : ¬ c ≤ 57 := by omega
      simp -implicitDefEqProofs (disch := omega) [e0, e3, ht, ho, hlo, hn, h, ix, a1, a2, b1, b2, hg]
  · by_cases b1 : 48 ≤ c
    · by_cases b2 : c ≤ 57
      · have hg := good (by rw [hC, decide_eq_true (p := 48 ≤ c ∧ c ≤ 57) ⟨b1, b2⟩]; simp)
        simp -implicitDefEqProofs (disch := omega) [e0, e3, ht, ho, hlo, hn, h, ix, a1, b1, b2, w1, hI]
        exact hg
      · by_cases b3 : c = 95
        · have hg := good (by rw [hC, decide_eq_true b3]; simp)
          have b4 : (c == 95) = true := by simpa using b3
          simp -implicitDefEqProofs (disch := omega) [e0, e3, ht, ho, hlo, hn, h, ix, a1, b1, b2, b4, w1, hI]
          exact hg
        · have hg := bad (by rw [hC, decide_eq_false (p := 97 ≤ c ∧ c ≤ 122) (by omega), decide_eq_false (p := 48 ≤ c ∧ c ≤ 57) (by omega), decide_eq_false (p := c = 95) b3]; rfl)
          have b4 : (c == 95) = false := by simpa using b3
          simp -implicitDefEqProofs (disch := omega) [e0, e3, ht, ho, hlo, hn, h, ix, a1, b1, b2, b4, hg]
    · have hg := bad (by rw [hC, decide_eq_false (p := 97 ≤ c ∧ c ≤ 122) (by omega), decide_eq_false (p := 48 ≤ c ∧ c ≤ 57) (by omega), decide_eq_false (p := c = 95) (by omega)]; rfl)
      have b4 : (c == 95) = false := by simp; omega
      simp -implicitDefEqProofs (disch := omega) [e0, e3, ht, ho, hlo, hn, h, ix, a1, b1, b4, hg])
noncomputable def k_rSchema : Ab.Spec := con1 some fun s objs => match s with
  | .agg [v, .int .i64 K] => match recR coD 3 objs v with
    | some cols => bnd cols.length 140737488355328 (if short24 cols = true then some (.int .i64 (chkR cols K), none) else none)
    | none => none
  | _ => none
noncomputable def T_rSchema : CallF := withF T_rName 13 k_rSchema
theorem T_rSchema_ok : CallOk Tryd.prog T_rSchema := con_of (A := annOf [] [] [] false []) fit T_rName_ok (fn := Tryd.f13) (by kernel_rfl) (by kernel_rfl) (by
  intro args objs r h0
  have c_rName : ∀ a o, T_rName 53 a o = k_rName a o := fun _ _ => rfl
  obtain ⟨s, _, rfl, hs, hR⟩ := con1_inv h0
  cases hs
  split at hR
  case h_2 => cases hR
  rename_i v K
  split at hR
  case h_2 => cases hR
  rename_i cols hc
  obtain ⟨hl, hR⟩ := bnd_inv hR
  split at hR
  case isFalse => cases hR
  rename_i hsh
  cases hR
  have hsh : ∀ c ∈ cols, (strL c.nm).length < 140737488355328 := by simpa [short24] using hsh
  have hv := colsV hc
  have vd := hv.dem
  have vn := hv.size (P := Tryd.prog) u22
  have vi := hv.idx (P := Tryd.prog) u22 z89
  refine .go _ rfl rfl ?_
  by_cases h1 : cols.length < 1
  · have hg : chkR cols K = 60 := chk_head (by unfold headOk; rw [decide_eq_false (p := 1 ≤ cols.length) (by omega)]; rfl)
    simp -implicitDefEqProofs (disch := omega) [vd, vn, h1, hg]
  by_cases h2 : 12 < cols.length
  · have hg : chkR cols K = 60 := chk_head (by unfold headOk; rw [decide_eq_false (p := cols.length ≤ 12) (by omega)]; simp)
    simp -implicitDefEqProofs (disch := omega) [vd, vn, h1, h2, hg]
  by_cases h3 : K < 1
  · have hg : chkR cols K = 60 := chk_head (by unfold headOk; rw [decide_eq_false (p := 1 ≤ K) (by omega)]; simp)
    simp -implicitDefEqProofs (disch := omega) [vd, vn, h1, h2, h3, hg]
  by_cases h4 : 3 < K
  · have hg : chkR cols K = 60 := chk_head (by unfold headOk; rw [decide_eq_false (p := K ≤ 3) (by omega)]; simp)
    simp -implicitDefEqProofs (disch := omega) [vd, vn, h1, h2, h3, h4, hg]
  by_cases h5 : (cols.length : Int) < K
  · have hg : chkR cols K = 60 := chk_head (by unfold headOk; rw [decide_eq_false (p := K ≤ (cols.length : Int)) (by omega)]; simp)
    simp -implicitDefEqProofs (disch := omega) [vd, vn, h1, h2, h3, h4, h5, hg]
  have hh : headOk cols K = true := by
    unfold headOk
    simp only [Bool.and_eq_true, decide_eq_true_eq]
    omega
  simp -implicitDefEqProofs (disch := omega) [vd, vn, h1, h2, h3, h4, h5]
  obtain ⟨I, hI⟩ : ∃ I : Nat → St → Prop, I = (fun (i : Nat) (z : St) => z.env 1 = .ptr objs.length 0 0 ∧ z.env 3 = .int .i64 i ∧ z.toks = [] ∧ z.low = objs.length ∧
    Ab.getObj z.objs objs.length 0 = some [v, .int .i64 K] ∧ Old objs z.objs ∧ ∀ j, j < i → colOk cols K j = true) := ⟨_, rfl⟩
  refine .up cols.length I (by rw [hI]; exact ⟨by simp, by simp, rfl, rfl, by simp, Old.ext _ _, fun j hj => absurd hj (by omega)⟩) ?_
  intro i z hi hz
  rw [hI] at hz
  obtain ⟨e1, e3, ht, hlo, hbox, hold, hpre⟩ := hz
  obtain ⟨O, ho⟩ : ∃ O, O = z.objs := ⟨_, rfl⟩
  rw [← ho] at hbox hold
  have ho := ho.symm
  have b1 := hbox
  have b1' := fun X => (show Ab.getObj (O ++ X) objs.length 0 = some [v, .int .i64 K] by rw [getObj_app (getObj_lt hbox)]; exact hbox)
  rcases Nat.lt_or_ge i cols.length with h | h
  case inr =>
    obtain rfl : i = cols.length := by omega
    have hg : chkR cols K = 0 := chk_good (schema_good hh hpre)
    simp -implicitDefEqProofs (disch := omega) [e1, e3, ht, ho, hlo, b1, vd, vn, hg]
  have hOl : objs.length < O.length := getObj_lt hbox
  have hOl2 : ¬ O.length < objs.length := by omega
  obtain ⟨c, hcc⟩ : ∃ c, c = nth cols i := ⟨_, rfl⟩
  have hcl := hsh _ (nth_mem h)
  have ix := vi .i64 i (by omega) (by omega)
  rw [Int.toNat_natCast] at ix
  obtain ⟨g1, -⟩ := col_get (hv.old hold) h
  obtain ⟨nm, k, nl⟩ := c
  rw [← hcc] at g1 hcl
  obtain ⟨dup, hdup⟩ : ∃ dup, dup = (cols.take i).any fun d => decide (strL d.nm = strL nm) := ⟨_, rfl⟩
  have hcol : colOk cols K i = (nameOk (strL nm) && (decide (1 ≤ k) && decide (k ≤ 8)) && !(decide ((i : Int) < K) && nl) && !dup) := by rw [hdup]; unfold colOk; rw [← hcc]
  have bad : colOk cols K i = false → chkR cols K = 60 := fun q => chk_bad (schema_bad h q)
  cases hn : nameOk (strL nm) with
  | false =>
    have hg := bad (by rw [hcol, hn]; rfl)
    simp -implicitDefEqProofs (disch := omega) [e1, e3, ht, ho, hlo, h, ix, b1, b1', vd, vn, c_rName, k_rName, hcl, hOl2, g1, coV, setCells, hn, hg]
  | true =>
  rw [hn, Bool.true_and] at hcol
  by_cases k1 : k < 1
  · have hg := bad (by rw [hcol, decide_eq_false (p := 1 ≤ k) (by omega)]; simp)
    simp -implicitDefEqProofs (disch := omega) [e1, e3, ht, ho, hlo, h, ix, b1, b1', vd, vn, c_rName, k_rName, hcl, hOl2, g1, coV, setCells, hn, k1, hg]
  by_cases k8 : 8 < k
  · have hg := bad (by rw [hcol, decide_eq_false (p := k ≤ 8) (by omega)]; simp)
    simp -implicitDefEqProofs (disch := omega) [e1, e3, ht, ho, hlo, h, ix, b1, b1', vd, vn, c_rName, k_rName, hcl, hOl2, g1, coV, setCells, hn, k1, k8, hg]
  rw [decide_eq_true (p := 1 ≤ k) (by omega), decide_eq_true (p := k ≤ 8) (by omega), Bool.and_true, Bool.true_and] at hcol
  by_cases hN : (i : Int) < K ∧ nl = true
  · obtain ⟨hK, rfl⟩ := hN
    have hg := bad (by rw [hcol, decide_eq_true hK]; rfl)
    simp -implicitDefEqProofs (disch := omega) [e1, e3, ht, ho, hlo, h, ix, b1, b1', vd, vn, c_rName, k_rName, hcl, hOl2, g1, coV, setCells, hn, k1, k8, hK, hg]
  have hcol : colOk cols K i = !dup := by
    rw [hcol]
    have : (decide ((i : Int) < K) && nl) = false := by
      rw [Bool.eq_false_iff]; intro q; simp at q; exact hN q
    rw [this]; rfl
  obtain ⟨O2, hO2⟩ : ∃ O2, O2 = O ++ [.cells (coV ⟨nm, k, nl⟩) 0] := ⟨_, rfl⟩
  have hold2 : Old objs O2 := by rw [hO2]; exact hold.app _
  have b2 : Ab.getObj O2 objs.length 0 = some [v, .int .i64 K] := by rw [hO2]; exact b1' _
  have bx : Ab.getObj O2 O.length 0 = some (coV ⟨nm, k, nl⟩) := by rw [hO2]; simp
  have hd1 : (∀ j, j < i → strL (nth cols j).nm ≠ strL nm) → dup = false := fun q => by
    rw [hdup, List.any_eq_false]
    intro d hd
    obtain ⟨j, hj, e⟩ := List.getElem_of_mem hd
    have hj2 : j < i := by rw [List.length_take] at hj; omega
    have := q j hj2
    rw [List.getElem_take, ← nth_lt (by omega)] at e
    rw [← e]; simpa using this
  have hd2 : ∀ j, j < i → strL (nth cols j).nm = strL nm → dup = true := fun j hj q => by
    rw [hdup, List.any_eq_true]
    exact ⟨nth cols j, by rw [← nth_take hj]; exact nth_mem (by rw [List.length_take]; omega), by simpa using q⟩
  obtain ⟨J, hJ⟩ : ∃ J : Nat → St → Prop, J = (fun (j : Nat) (z : St) => z.env 1 = .ptr objs.length 0 0 ∧ z.env 3 = .int .i64 i ∧ z.env 4 = .ptr O.length 0 0 ∧ z.env 5 = .int .i64 j ∧ z.toks = [] ∧ z.low = objs.length ∧ z.objs = O2 ∧ ∀ m, m < j → strL (nth cols m).nm ≠ strL nm) := ⟨_, rfl⟩
  have w1 : IntKind.i64.wrap ((i : Int) + 1) = (i : Int) + 1 := wrap_small (by omega) (by omega)
  rcases (show ((i : Int) < K ∧ nl = false) ∨ (¬ (i : Int) < K ∧ nl = false) ∨ (¬ (i : Int) < K ∧ nl = true) by
    cases nl
    · by_cases q : (i : Int) < K
      · exact .inl ⟨q, rfl⟩
      · exact .inr (.inl ⟨q, rfl⟩)
    · exact .inr (.inr ⟨fun q => hN ⟨q, rfl⟩, rfl⟩)) with ⟨hK, hnl⟩ | ⟨hK, hnl⟩ | ⟨hK, hnl⟩
  all_goals
    rw [hnl] at g1
    have hO3 : O2 = O ++ [.cells [.str nm, .int .i64 k, .bool nl] 0] := hO2
    rw [hnl] at hO3
    simp -implicitDefEqProofs (disch := omega) [e1, e3, ht, ho, hlo, h, ix, b1, b1', vd, vn, c_rName, k_rName, hcl, hOl2, g1, coV, setCells, hn, k1, k8, hK]
    rw [← hO3]
    refine .up i J (by rw [hJ]; exact ⟨by simp [e1], by simp [e3], by simp, by simp, rfl, rfl, rfl, fun j hj => absurd hj (by omega)⟩) ?_
    intro j z2 hj hz2
    rw [hJ] at hz2
    obtain ⟨e1, e3, e4, e5, ht, hlo, ho, hpre2⟩ := hz2
    rcases Nat.lt_or_ge j i with hji | hji
    case inr =>
      obtain rfl : j = i := by omega
      have hg : colOk cols K j = true := by rw [hcol, hd1 hpre2]; rfl
      simp -implicitDefEqProofs (disch := omega) [e1, e3, e4, e5, ht, ho, hlo, w1, h]
      rw [hI]
      refine ⟨by simp [e1], by simp, rfl, rfl, b2, hold2, fun m hm => ?_⟩
      rcases Nat.lt_or_ge m j with hm2 | hm2
      · exact hpre m hm2
      · obtain rfl : m = j := by omega
        exact hg
    have jx := vi .i64 j (by omega) (by omega)
    rw [Int.toNat_natCast] at jx
    obtain ⟨-, g2, -⟩ := col_get (hv.old hold2) (show j < cols.length by omega)
    by_cases hsm : strL (nth cols j).nm = strL nm
    · have hg := bad (by rw [hcol, hd2 j hji hsm]; rfl)
      simp -implicitDefEqProofs (disch := omega) [e1, e3, e4, e5, ht, ho, hlo, hji, jx, b2, bx, vd, col_f0, g2, coV, str_beq, hsm, hg]
    · have hw : IntKind.i64.wrap ((j : Int) + 1) = (j : Int) + 1 := wrap_small (by omega) (by omega)
      simp -implicitDefEqProofs (disch := omega) [e1, e3, e4, e5, ht, ho, hlo, hji, jx, b2, bx, vd, col_f0, g2, coV, str_beq, hsm, hw]
      rw [hJ]
      refine ⟨by simp [e1], by simp [e3], by simp [e4], by simp, rfl, rfl, rfl, fun m hm => ?_⟩
      rcases Nat.lt_or_ge m j with hm2 | hm2
      · exact hpre2 m hm2
      · obtain rfl : m = j := by omega
        exact hsm)

end Go.Proofs.YtnbgmclbbkfhhaaDoor.B
set_option maxRecDepth 20000
set_option maxHeartbeats 1000000
namespace Go.Proofs.YtnbgmclbbkfhhaaDoor.B
open Go Go.Ab
noncomputable def k_cCheck : Ab.Spec := con3 (ofInt .i64) ofBool some fun k nl v objs => match v with
  | .agg [.bool n, .int .i64 i, a] => match ofIntsR .u8 objs a with
    | some l => bnd l.length 140737488355328 (if i64B i = true ∧ b8 l = true then some (.int .i64 (checkR k nl n i l), none) else none)
    | none => none
  | _ => none
noncomputable def T_cCheck : CallF := withF T_rSchema 57 k_cCheck
theorem T_cCheck_ok : CallOk Tryd.prog T_cCheck := con_of (A := annOf [] [] [] false []) fit T_rSchema_ok (fn := Tryd.f57) (by kernel_rfl) (by kernel_rfl) (by
  intro args objs r h0
  have c_known : ∀ a o, T_rSchema 74 a o = k_known a o := fun _ _ => rfl
  have c_Number : ∀ a o, T_rSchema 75 a o = k_Number a o := fun _ _ => rfl
  have c_ctext : ∀ a o, T_rSchema 76 a o = k_ctext a o := fun _ _ => rfl
  have c_holds : ∀ a o, T_rSchema 77 a o = k_holds a o := fun _ _ => rfl
  obtain ⟨_, _, v, k, nl, _, rfl, hk, hnl, hv, hR⟩ := con3_inv h0
  obtain rfl := ofInt_inv hk
  obtain rfl := ofBool_inv hnl
  cases hv
  split at hR
  case h_2 => cases hR
  rename_i n i a
  split at hR
  case h_2 => cases hR
  rename_i l ha
  obtain ⟨hl, hR⟩ := bnd_inv hR
  split at hR
  case isFalse => cases hR
  rename_i hib
  obtain ⟨hib, h8⟩ := hib
  cases hR
  obtain ⟨a1, a2, a3, a4⟩ := one_ofR ha
  obtain ⟨P, -, vn, -⟩ := bsR ha
  have ha' : ∀ M, ofIntsR .u8 (objs ++ M) a = some l := fun M => ofIntsR_app ha
  refine .go _ rfl rfl ?_
  by_cases hkn : 1 ≤ k ∧ k ≤ 8
  case neg =>
    have hg : checkR k nl n i l = 1 := if_pos (by omega)
    have hkd : knownB k = false := decide_eq_false hkn
    simp -implicitDefEqProofs (disch := omega) [a1, a2, a3, a4, c_known, k_known, hkd, hg]
  have hkd : knownB k = true := decide_eq_true hkn
  obtain ⟨k1, k8⟩ := hkn
  have hg0 : checkR k nl n i l = if n = true then (if nl = true then (if i = 0 ∧ l = [] then 0 else 50) else 51)
      else if k ≤ 6 then (if l = [] then (if holdsR k i = true then 0 else 52) else 50) else if i = 0 then textR k l else 50 := if_neg (by omega)
  have hl0 : ∀ h : ¬ l = [], 0 < l.length := fun h => List.length_pos_iff.2 h
  cases n with
  | true =>
    rw [if_pos rfl] at hg0
    cases nl with
    | false => simp -implicitDefEqProofs (disch := omega) [a1, a2, a3, a4, c_known, k_known, hkd, hg0]
    | true =>
      rw [if_pos rfl] at hg0
      by_cases hi : i = 0
      · subst hi
        by_cases hz : l = []
        · subst hz
          simp -implicitDefEqProofs (disch := omega) [a1, a2, a3, a4, c_known, k_known, hkd, vn, hg0]
        · have := hl0 hz
          simp -implicitDefEqProofs (disch := omega) [a1, a2, a3, a4, c_known, k_known, hkd, vn, hg0, hz, this]
      · have hi' : (i != 0) = true := by simpa using hi
        simp -implicitDefEqProofs (disch := omega) [a1, a2, a3, a4, c_known, k_known, hkd, vn, hg0, hi, hi']
  | false =>
    rw [if_neg (by simp)] at hg0
    by_cases k6 : k ≤ 6
    · rw [if_pos k6] at hg0
      have hnd : numB k = true := decide_eq_true ⟨k1, k6⟩
      by_cases hz : l = []
      · rw [if_pos hz] at hg0
        have hz2 : ¬ 0 < l.length := by rw [hz]; simp
        cases hh : holdsR k i
        · rw [hh, if_neg (by simp)] at hg0
          simp -implicitDefEqProofs (disch := omega) [a1, a2, a3, a4, c_known, k_known, hkd, c_Number, k_Number, hnd, c_holds, k_holds, hib, k1, k6, vn, hg0, hz2, hh]
        · rw [hh, if_pos rfl] at hg0
          simp -implicitDefEqProofs (disch := omega) [a1, a2, a3, a4, c_known, k_known, hkd, c_Number, k_Number, hnd, c_holds, k_holds, hib, k1, k6, vn, hg0, hz2, hh]
      · rw [if_neg hz] at hg0
        have := hl0 hz
        simp -implicitDefEqProofs (disch := omega) [a1, a2, a3, a4, c_known, k_known, hkd, c_Number, k_Number, hnd, vn, hg0, hz, this]
    · rw [if_neg k6] at hg0
      have hnd : numB k = false := decide_eq_false fun q => k6 q.2
      by_cases hi : i = 0
      · subst hi
        rw [if_pos rfl] at hg0
        simp -implicitDefEqProofs (disch := omega) [a1, a2, a3, a4, c_known, k_known, hkd, c_Number, k_Number, hnd, vn, hg0, c_ctext, k_ctext, ha', h8]
      · rw [if_neg hi] at hg0
        have hi' : (i != 0) = true := by simpa using hi
        simp -implicitDefEqProofs (disch := omega) [a1, a2, a3, a4, c_known, k_known, hkd, c_Number, k_Number, hnd, vn, hg0, hi, hi'])

end Go.Proofs.YtnbgmclbbkfhhaaDoor.B
set_option maxRecDepth 20000
set_option maxHeartbeats 1000000
namespace Go.Proofs.YtnbgmclbbkfhhaaDoor.B
open Go Go.Ab
/-! rows of cells -/
structure Ce where
  n : Bool
  i : Int
  v : V
instance : Inhabited Ce := ⟨⟨false, 0, .nils⟩⟩
def ceV (x : Ce) : List V := [.bool x.n, .int .i64 x.i, x.v]
def Ce.b (x : Ce) (objs : List AO) : List Int := (ofIntsR .u8 objs x.v).getD []
def ceOk (objs : List AO) (x : Ce) : Bool := i64B x.i && match ofIntsR .u8 objs x.v with | some l => b8 l && decide (l.length < 140737488355000) | none => false
def ceD (objs : List AO) : List V → Option Ce
  | [.bool n, .int .i64 i, v] => if ceOk objs ⟨n, i, v⟩ = true then some ⟨n, i, v⟩ else none
  | _ => none
theorem ceV_len (c : Ce) : (ceV c).length = 3 := rfl
theorem ceD_inv {objs : List AO} (x : List V) (c : Ce) (h : ceD objs x = some c) : x = ceV c := by
  unfold ceD at h; split at h
  · split at h <;> cases h; rfl
  · cases h
theorem ceD_ok {objs : List AO} {c : Ce} : ceD objs (ceV c) = some c ↔ ceOk objs c = true := by
  show (if ceOk objs c = true then some c else none) = some c ↔ _
  split <;> simp_all
theorem ceOk_inv {objs : List AO} {x : Ce} (h : ceOk objs x = true) : i64B x.i = true ∧ ofIntsR .u8 objs x.v = some (x.b objs) ∧ b8 (x.b objs) = true ∧ (x.b objs).length < 140737488355000 := by
  unfold ceOk at h
  rw [Bool.and_eq_true] at h
  obtain ⟨h1, h2⟩ := h
  unfold Ce.b
  cases hv : ofIntsR .u8 objs x.v with
  | none => rw [hv] at h2; cases h2
  | some l =>
    rw [hv] at h2
    simp only [Bool.and_eq_true, decide_eq_true_eq] at h2
    exact ⟨h1, rfl, h2.1, h2.2⟩
theorem ceOk_of {objs : List AO} {x : Ce} {l : List Int} (h1 : i64B x.i = true) (h2 : ofIntsR .u8 objs x.v = some l) (h3 : b8 l = true) (h4 : l.length < 140737488355000) : ceOk objs x = true ∧ x.b objs = l := by
  unfold ceOk Ce.b
  rw [h1, h2]
  simp [h3, h4]
theorem ce_old {objs O : List AO} {x : Ce} (h : ceOk objs x = true) (ho : Old objs O) : ceOk O x = true ∧ x.b O = x.b objs := by
  obtain ⟨h1, h2, h3, h4⟩ := ceOk_inv h
  exact ceOk_of h1 (ofIntsR_old h2 ho) h3 h4
def rowR (objs : List AO) (v : V) : Option (List Ce) := recR (ceD objs) 3 objs v
theorem rowR_inv {objs : List AO} {v : V} {l : List Ce} (h : rowR objs v = some l) : RowV objs 3 v (flatV ceV l) l.length ∧ ∀ x ∈ l, ceOk objs x = true :=
  ⟨recR_inv ceV_len ceD_inv h, fun x hx => ceD_ok.1 (recR_mem ceV_len ceD_inv h x hx)⟩
theorem rowR_of {objs : List AO} {v : V} {l : List Ce} (h : RowV objs 3 v (flatV ceV l) l.length) (hk : ∀ x ∈ l, ceOk objs x = true) : rowR objs v = some l := h.rec ceV_len fun x hx => ceD_ok.2 (hk x hx)
theorem rowR_old {objs O : List AO} {v : V} {l : List Ce} (h : rowR objs v = some l) (ho : Old objs O) : rowR O v = some l := by
  obtain ⟨h1, h2⟩ := rowR_inv h
  exact rowR_of (h1.old ho) fun x hx => (ce_old (h2 x hx) ho).1
theorem cell_f0 (v : V) (cs : List V) (j : Nat) : fieldAddrV Tryd.prog 82 (ptAt v cs j) 0 = some (ptAt v cs j) := by cases v <;> simp [ptAt, fieldAddrV]
theorem cell_f1 (v : V) (cs : List V) (j : Nat) : fieldAddrV Tryd.prog 82 (ptAt v cs j) 1 = some (ptAt v cs (j + 1)) := by cases v <;> simp [ptAt, fieldAddrV, Nat.add_assoc]
theorem cell_f2 (v : V) (cs : List V) (j : Nat) : fieldAddrV Tryd.prog 82 (ptAt v cs j) 2 = some (ptAt v cs (j + 2)) := by cases v <;> simp [ptAt, fieldAddrV, Nat.add_assoc]
theorem row_at {objs : List AO} {v : V} {l : List Ce} (h : RowV objs 3 v (flatV ceV l) l.length) {i : Nat} (hi : i < l.length) :
    loadV Tryd.prog 82 objs (ptAt v (flatV ceV l) (i * 3)) = some (.agg (ceV (nth l i))) ∧ loadV Tryd.prog 59 objs (ptAt v (flatV ceV l) (i * 3 + 2)) = some (demote (nth l i).v) := by
  have hf := flatV_fit ceV_len hi
  refine ⟨?_, ?_⟩
  · rw [h.agg (n := 3) g82 hf, flatV_at ceV_len hi]
  · exact h.get g59 (x := (nth l i).v) (by have := flatV_get (j := 2) ceV_len hi (by omega); simpa [ceV] using this)
/-- What a slice of cells is good for. -/
theorem rowF {objs : List AO} {v : V} {l : List Ce} (h : rowR objs v = some l) : RowV objs 3 v (flatV ceV l) l.length ∧ demote v = v ∧ lenV Tryd.prog 25 v = some (.int .i64 l.length) ∧ (∀ i : Nat, i < l.length → indexV Tryd.prog 25 v (.int .i64 i) = some (ptAt v (flatV ceV l) (i * 3))) ∧ ∀ i, i < l.length → ceOk objs (nth l i) = true := by
  obtain ⟨h1, h2⟩ := rowR_inv h
  refine ⟨h1, h1.dem, h1.size (P := Tryd.prog) u25, fun i hi => ?_, fun i hi => h2 _ (nth_mem hi)⟩
  have := h1.idx (P := Tryd.prog) u25 z82 .i64 i (by omega) (by omega)
  rwa [Int.toNat_natCast] at this
/-- The first that is not naught. -/
def firstE (f : Nat → Int) : Nat → Nat → Int
  | 0, _ => 0
  | n + 1, i => if f i = 0 then firstE f n (i + 1) else f i
theorem firstE_none {f : Nat → Int} : ∀ {n i : Nat}, (∀ j, i ≤ j → j < i + n → f j = 0) → firstE f n i = 0
  | 0, _, _ => rfl
  | n + 1, i, h => by
    unfold firstE
    rw [if_pos (h i (Nat.le_refl _) (by omega))]
    exact firstE_none fun j h1 h2 => h j (by omega) (by omega)
theorem firstE_at {f : Nat → Int} {j : Nat} (hj : f j ≠ 0) : ∀ {n i : Nat}, i ≤ j → j < i + n → (∀ m, i ≤ m → m < j → f m = 0) → firstE f n i = f j
  | 0, i, h1, h2, _ => absurd h2 (by omega)
  | n + 1, i, h1, h2, h3 => by
    unfold firstE
    rcases Nat.eq_or_lt_of_le h1 with rfl | h4
    · rw [if_neg hj]
    · rw [if_pos (h3 i (Nat.le_refl _) h4)]
      exact firstE_at hj h4 (by omega) fun m g1 g2 => h3 m (by omega) g2
def chkC (objs : List AO) (c : Co) (x : Ce) : Int := checkR c.k c.n x.n x.i (x.b objs)
theorem chkC_old {objs O : List AO} {x : Ce} (c : Co) (h : ceOk objs x = true) (ho : Old objs O) : chkC O c x = chkC objs c x := by unfold chkC; rw [(ce_old h ho).2]
def cellsE (objs : List AO) (cols : List Co) (row : List Ce) : Int := if row.length = cols.length then firstE (fun i => chkC objs (nth cols i) (nth row i)) cols.length 0 else 61
noncomputable def k_cells : Ab.Spec := con2 some some fun v w objs => match recR coD 3 objs v, rowR objs w with
  | some cols, some row => bnd cols.length 140737488355328 (some (.int .i64 (cellsE objs cols row), none))
  | _, _ => none
noncomputable def T_cells : CallF := withF T_cCheck 54 k_cells
theorem T_cells_ok : CallOk Tryd.prog T_cells := con_of (A := annOf [] [] [] false []) fit T_cCheck_ok (fn := Tryd.f54) (by kernel_rfl) (by kernel_rfl) (by
  intro args objs r h0
  have c_cCheck : ∀ a o, T_cCheck 57 a o = k_cCheck a o := fun _ _ => rfl
  obtain ⟨v, w, _, _, rfl, hv, hw, hR⟩ := con2_inv h0
  cases hv; cases hw
  split at hR
  case h_2 => cases hR
  rename_i cols row hc hr
  obtain ⟨hl, hR⟩ := bnd_inv hR
  cases hR
  have hv := colsV hc
  have vd := hv.dem
  have vn := hv.size (P := Tryd.prog) u22
  have vi := hv.idx (P := Tryd.prog) u22 z89
  obtain ⟨hw, wd, wn, wi, wk⟩ := rowF hr
  refine .go _ rfl rfl ?_
  by_cases hn : row.length = cols.length
  case neg =>
    have hf : ((row.length : Int) != (cols.length : Int)) = true := by simp only [bne_iff_ne, ne_eq]; omega
    have hg : cellsE objs cols row = 61 := if_neg hn
    simp -implicitDefEqProofs (disch := omega) [vn, wn, hf, hg]
  have hg0 : cellsE objs cols row = firstE (fun i => chkC objs (nth cols i) (nth row i)) cols.length 0 := if_pos hn
  simp -implicitDefEqProofs (disch := omega) [vn, wn, hn]
  obtain ⟨I, hI⟩ : ∃ I : Nat → St → Prop, I = (fun (i : Nat) (z : St) => z.env 1 = w ∧ z.env 13 = v ∧ z.env 14 = .int .i64 cols.length ∧ z.env 15 = .int .i64 i ∧ z.toks = [] ∧ z.low = objs.length ∧ Old objs z.objs ∧ ∀ j, j < i → chkC objs (nth cols j) (nth row j) = 0) := ⟨_, rfl⟩
  refine .up cols.length I (by rw [hI]; exact ⟨by simp, by simp, by simp, by simp, rfl, rfl, Old.refl _, fun j hj => absurd hj (by omega)⟩) ?_
  intro i z hi hz
  rw [hI] at hz
  obtain ⟨e1, e13, e14, e15, ht, hlo, hold, hpre⟩ := hz
  obtain ⟨O, ho⟩ : ∃ O, O = z.objs := ⟨_, rfl⟩
  rw [← ho] at hold
  have ho := ho.symm
  rcases Nat.lt_or_ge i cols.length with h | h
  case inr =>
    obtain rfl : i = cols.length := by omega
    have hg : cellsE objs cols row = 0 := by rw [hg0]; exact firstE_none fun j _ hj => hpre j (by omega)
    simp -implicitDefEqProofs (disch := omega) [e1, e13, e14, e15, ht, ho, hlo, hg]
  have hOl : objs.length ≤ O.length := hold.1
  have hOl2 : ¬ O.length < objs.length := by omega
  have ix := vi .i64 i (by omega) (by omega)
  rw [Int.toNat_natCast] at ix
  have jx := wi i (by omega)
  obtain ⟨g1, -⟩ := col_get (hv.old hold) h
  obtain ⟨g2, -⟩ := row_at ((hw.old hold).app [.cells (coV (nth cols i)) 0]) (i := i) (by omega)
  have hk := wk i (by omega)
  obtain ⟨k1, k2, k3, k4⟩ := ceOk_inv (ce_old hk (hold.app [.cells (coV (nth cols i)) 0])).1
  have hb := (ce_old hk (hold.app [.cells (coV (nth cols i)) 0])).2
  have hcx : chkC objs (nth cols i) (nth row i) = checkR (nth cols i).k (nth cols i).n (nth row i).n (nth row i).i ((nth row i).b objs) := rfl
  obtain ⟨c, hcc⟩ : ∃ c, c = nth cols i := ⟨_, rfl⟩
  obtain ⟨x, hxx⟩ : ∃ x, x = nth row i := ⟨_, rfl⟩
  rw [hb] at k2 k3 k4
  have hi2 := fun (q : chkC objs (nth cols i) (nth row i) = 0) (j : Nat) (hj : j < i + 1) => show chkC objs (nth cols j) (nth row j) = 0 from by
    rcases Nat.lt_or_ge j i with hj2 | hj2
    · exact hpre j hj2
    · obtain rfl : j = i := by omega
      exact q
  have hbad := fun (q : chkC objs (nth cols i) (nth row i) ≠ 0) => show cellsE objs cols row = chkC objs (nth cols i) (nth row i) from by
    rw [hg0]
    exact firstE_at (f := fun i => chkC objs (nth cols i) (nth row i)) q (Nat.zero_le _) (by omega) fun m _ hm => hpre m hm
  rw [← hcc] at g1 g2 k2 hcx hi2 hbad
  rw [← hxx] at g2 k1 k2 k3 k4 hcx hi2 hbad
  obtain ⟨a1, a2, a3, a4⟩ := one_ofR k2
  obtain ⟨nm, k, nl⟩ := c
  obtain ⟨xn, xi, xv⟩ := x
  simp only at k1 k2 k3 k4 hcx a1 a2 a3 a4
  obtain ⟨B, hB⟩ : ∃ B, B = (⟨xn, xi, xv⟩ : Ce).b objs := ⟨_, rfl⟩
  rw [← hB] at k2 k3 k4 hcx
  obtain ⟨E, hE⟩ : ∃ E, E = checkR k nl xn xi B := ⟨_, rfl⟩
  rw [← hE] at hcx
  rw [hcx] at hi2 hbad
  have hO : Old objs (O ++ [.cells [.str nm, .int .i64 k, .bool nl] 0]) := hold.app _
  simp only [coV] at g2 k2
  by_cases hz : E = 0
  · have hi3 := hi2 hz
    rw [hz] at hE
    simp -implicitDefEqProofs (disch := omega) [e1, e13, e14, e15, ht, ho, hlo, h, ix, jx, hOl2, g1, g2, coV, ceV, setCells, wd, a1, a2, a3, a4, c_cCheck, k_cCheck, k1, k2, k3, k4, ← hE, wrap_small]
    rw [hI]
    exact ⟨by simp [e1], by simp [e13], by simp [e14], by simp, rfl, rfl, hO, hi3⟩
  · have hg := hbad hz
    have hz2 : (E != 0) = true := by simpa using hz
    simp -implicitDefEqProofs (disch := omega) [e1, e13, e14, e15, ht, ho, hlo, h, ix, jx, hOl2, g1, g2, coV, ceV, setCells, wd, a1, a2, a3, a4, c_cCheck, k_cCheck, k1, k2, k3, k4, ← hE, hz, hz2, hg])

end Go.Proofs.YtnbgmclbbkfhhaaDoor.B
set_option maxRecDepth 20000
set_option maxHeartbeats 1000000
namespace Go.Proofs.YtnbgmclbbkfhhaaDoor.B
open Go Go.Ab
theorem firstE_congr {f g : Nat → Int} : ∀ {n i : Nat}, (∀ j, i ≤ j → j < i + n → f j = g j) → firstE f n i = firstE g n i
  | 0, _, _ => rfl
  | n + 1, i, h => by
    unfold firstE
    rw [h i (Nat.le_refl _) (by omega), firstE_congr fun j h1 h2 => h j (by omega) (by omega)]
def cellsN (objs : List AO) (cols : List Co) (n : Nat) (row : List Ce) : Int := if row.length = n then firstE (fun i => chkC objs (nth cols i) (nth row i)) n 0 else 61
theorem cellsE_take {objs : List AO} {cols : List Co} {n : Nat} {row : List Ce} (h : n ≤ cols.length) : cellsE objs (cols.take n) row = cellsN objs cols n row := by
  have hl : (cols.take n).length = n := by rw [List.length_take]; omega
  unfold cellsE cellsN
  rw [hl]
  split
  · refine firstE_congr fun j _ hj => ?_
    show chkC objs (nth (cols.take n) j) (nth row j) = _
    rw [nth_take (by omega)]
  · rfl
theorem cellsE_all {objs : List AO} {cols : List Co} {row : List Ce} : cellsE objs cols row = cellsN objs cols cols.length row := rfl
/-- A schema that is handed. -/
def schD (objs : List AO) (s : V) : Option (List Co × Int) := match s with
  | .agg [v, .int .i64 K] => (recR coD 3 objs v).bind fun cols => if cols.length < 140737488355328 ∧ short24 cols = true then some (cols, K) else none
  | _ => none
theorem schD_inv {objs : List AO} {s : V} {cols : List Co} {K : Int} (h : schD objs s = some (cols, K)) : ∃ v, s = .agg [v, .int .i64 K] ∧ recR coD 3 objs v = some cols ∧ cols.length < 140737488355328 ∧ short24 cols = true := by
  unfold schD at h
  split at h
  case h_2 => cases h
  rename_i v K'
  obtain ⟨c, h1, h2⟩ := Option.bind_eq_some_iff.1 h
  split at h2 <;> cases h2
  rename_i h3
  exact ⟨v, rfl, h1, h3⟩
theorem schD_of {objs : List AO} {v : V} {cols : List Co} {K : Int} (h1 : recR coD 3 objs v = some cols) (h2 : cols.length < 140737488355328) (h3 : short24 cols = true) : schD objs (.agg [v, .int .i64 K]) = some (cols, K) := by
  show (recR coD 3 objs v).bind _ = _
  rw [h1]; simp [h2, h3]
theorem colR_old {objs O : List AO} {v : V} {cols : List Co} (h : recR coD 3 objs v = some cols) (ho : Old objs O) : recR coD 3 O v = some cols := ((colsV h).old ho).rec coV_len fun a _ => coD_coV a
theorem schD_old {objs O : List AO} {s : V} {p : List Co × Int} (h : schD objs s = some p) (ho : Old objs O) : schD O s = some p := by
  obtain ⟨cols, K⟩ := p
  obtain ⟨v, rfl, h1, h2, h3⟩ := schD_inv h
  exact schD_of (colR_old h1 ho) h2 h3
theorem k_sch {objs : List AO} {s : V} {cols : List Co} {K : Int} (h : schD objs s = some (cols, K)) : k_schCheck [s] objs = some (.int .i64 (chkR cols K), none) ∧ k_rSchema [s] objs = some (.int .i64 (chkR cols K), none) := by
  obtain ⟨v, rfl, h1, h2, h3⟩ := schD_inv h
  exact ⟨by simp [k_schCheck, h1, h2, h3], by simp [k_rSchema, h1, h2, h3]⟩
/-- What a schema's value is good for. -/
theorem schF {objs : List AO} {s : V} {cols : List Co} {K : Int} (h : schD objs s = some (cols, K)) : ∃ v, s = .agg [v, .int .i64 K] ∧ RowV objs 3 v (flatV coV cols) cols.length ∧ demote v = v ∧ oneCell v = true ∧ isDef v = true ∧ cellsOf v = [v] ∧ lenV Tryd.prog 22 v = some (.int .i64 cols.length) ∧ (∀ i : Nat, i < cols.length → indexV Tryd.prog 22 v (.int .i64 i) = some (ptAt v (flatV coV cols) (i * 3))) ∧ recR coD 3 objs v = some cols ∧ cols.length < 140737488355328 := by
  obtain ⟨v, rfl, h1, h2, h3⟩ := schD_inv h
  have hv := colsV h1
  refine ⟨v, rfl, hv, hv.dem, hv.one, hv.isDef, hv.cells, hv.size (P := Tryd.prog) u22, fun i hi => ?_, h1, h2⟩
  have := hv.idx (P := Tryd.prog) u22 z89 .i64 i (by omega) (by omega)
  rwa [Int.toNat_natCast] at this
theorem chk_pos {cols : List Co} {K : Int} (h : chkR cols K = 0) : 1 ≤ cols.length ∧ cols.length ≤ 12 ∧ 1 ≤ K ∧ K ≤ 3 ∧ K ≤ cols.length := by
  have hs : schemaOk cols K = true := by
    unfold chkR at h; split at h
    · assumption
    · cases h
  unfold schemaOk headOk at hs
  simp only [Bool.and_eq_true, decide_eq_true_eq] at hs
  omega
theorem chk_or (cols : List Co) (K : Int) : chkR cols K = 0 ∨ chkR cols K = 60 := by unfold chkR; split <;> simp
noncomputable def k_rcells : Ab.Spec := con3 some (ofInt .i64) some fun s n w objs => match schD objs s, rowR objs w with
  | some (cols, K), some row => if 0 ≤ n ∧ n ≤ cols.length then some (.int .i64 (cellsN objs cols n.toNat row), none) else none
  | _, _ => none
noncomputable def T_rcells : CallF := withF T_cells 55 k_rcells
theorem T_rcells_ok : CallOk Tryd.prog T_rcells := con_of (A := annOf [] [] [] false []) fit T_cells_ok (fn := Tryd.f55) (by kernel_rfl) (by kernel_rfl) (by
  intro args objs r h0
  have c_rCheck : ∀ a o, T_cells 58 a o = k_rCheck a o := fun _ _ => rfl
  obtain ⟨s, _, w, _, n, _, rfl, hs, hn, hw, hR⟩ := con3_inv h0
  cases hs; cases hw
  obtain rfl := ofInt_inv hn
  split at hR
  case h_2 => cases hR
  rename_i cols K row hsc hr
  split at hR
  case isFalse => cases hR
  rename_i hn
  cases hR
  obtain ⟨m, rfl⟩ := Int.eq_ofNat_of_zero_le hn.1
  have hm : m ≤ cols.length := by omega
  simp only [Int.toNat_natCast]
  obtain ⟨v, rfl, hv, vd, vo, vf, vc, vn, vi, hc, hl⟩ := schF hsc
  obtain ⟨hw, wd, wn, wi, wk⟩ := rowF hr
  refine .go _ rfl rfl ?_
  by_cases hn : row.length = m
  case neg =>
    have hf : ((row.length : Int) != (m : Int)) = true := by simp only [bne_iff_ne, ne_eq]; omega
    have hg : cellsN objs cols m row = 61 := if_neg hn
    simp -implicitDefEqProofs (disch := omega) [vd, vn, wn, hf, hg]
  have hg0 : cellsN objs cols m row = firstE (fun i => chkC objs (nth cols i) (nth row i)) m 0 := if_pos hn
  simp -implicitDefEqProofs (disch := omega) [vd, vn, wn, hn]
  obtain ⟨I, hI⟩ : ∃ I : Nat → St → Prop, I = (fun (i : Nat) (z : St) => z.env 1 = .int .i64 m ∧ z.env 2 = w ∧ z.env 3 = .ptr objs.length 0 0 ∧ z.env 7 = .int .i64 i ∧ z.toks = [] ∧ z.low = objs.length ∧ z.objs = objs ++ [.cells [v, .int .i64 K] 0] ∧ ∀ j, j < i → chkC objs (nth cols j) (nth row j) = 0) := ⟨_, rfl⟩
  refine .up m I (by rw [hI]; exact ⟨by simp, by simp, by simp, by simp, rfl, rfl, rfl, fun j hj => absurd hj (by omega)⟩) ?_
  intro i z hi hz
  rw [hI] at hz
  obtain ⟨e1, e2, e3, e7, ht, hlo, ho, hpre⟩ := hz
  obtain ⟨O, hO⟩ : ∃ O, O = objs ++ [.cells [v, .int .i64 K] 0] := ⟨_, rfl⟩
  have hold : Old objs O := by rw [hO]; exact Old.ext _ _
  have b1 : Ab.getObj O objs.length 0 = some [v, .int .i64 K] := by rw [hO]; simp
  rw [← hO] at ho
  rcases Nat.lt_or_ge i m with h | h
  case inr =>
    obtain rfl : i = m := by omega
    have hg : cellsN objs cols i row = 0 := by rw [hg0]; exact firstE_none fun j _ hj => hpre j (by omega)
    simp -implicitDefEqProofs (disch := omega) [e1, e2, e3, e7, ht, ho, hlo, hg]
  have ix := vi i (by omega)
  have jx := wi i (by omega)
  obtain ⟨-, -, g3, g4⟩ := col_get (hv.old hold) (i := i) (by omega)
  obtain ⟨g2, -⟩ := row_at (hw.old hold) (i := i) (by omega)
  have hk := wk i (by omega)
  obtain ⟨k1, k2, k3, k4⟩ := ceOk_inv (ce_old hk hold).1
  have hb := (ce_old hk hold).2
  have hcx : chkC objs (nth cols i) (nth row i) = checkR (nth cols i).k (nth cols i).n (nth row i).n (nth row i).i ((nth row i).b objs) := rfl
  obtain ⟨c, hcc⟩ : ∃ c, c = nth cols i := ⟨_, rfl⟩
  obtain ⟨x, hxx⟩ : ∃ x, x = nth row i := ⟨_, rfl⟩
  rw [hb] at k2 k3 k4
  have hi2 := fun (q : chkC objs (nth cols i) (nth row i) = 0) (j : Nat) (hj : j < i + 1) => show chkC objs (nth cols j) (nth row j) = 0 from by
    rcases Nat.lt_or_ge j i with hj2 | hj2
    · exact hpre j hj2
    · obtain rfl : j = i := by omega
      exact q
  have hbad := fun (q : chkC objs (nth cols i) (nth row i) ≠ 0) => show cellsN objs cols m row = chkC objs (nth cols i) (nth row i) from by
    rw [hg0]
    exact firstE_at (f := fun i => chkC objs (nth cols i) (nth row i)) q (Nat.zero_le _) (by omega) fun m _ hm => hpre m hm
  rw [← hcc] at g3 g4 hcx hi2 hbad
  rw [← hxx] at g2 k1 k2 k3 k4 hcx hi2 hbad
  obtain ⟨a1, a2, a3, a4⟩ := one_ofR k2
  obtain ⟨nm, k, nl⟩ := c
  obtain ⟨xn, xi, xv⟩ := x
  simp only at g3 g4 k1 k2 k3 k4 hcx a1 a2 a3 a4
  obtain ⟨B, hB⟩ : ∃ B, B = (⟨xn, xi, xv⟩ : Ce).b objs := ⟨_, rfl⟩
  rw [← hB] at k2 k3 k4 hcx
  obtain ⟨E, hE⟩ : ∃ E, E = checkR k nl xn xi B := ⟨_, rfl⟩
  rw [← hE] at hcx
  rw [hcx] at hi2 hbad
  by_cases hz : E = 0
  · have hi3 := hi2 hz
    rw [hz] at hE
    simp -implicitDefEqProofs (disch := omega) [e1, e2, e3, e7, ht, ho, hlo, h, b1, vd, ix, jx, g2, g3, g4, col_f1, col_f2, ceV, wd, a1, a2, a3, a4, c_rCheck, k_rCheck, k1, k2, k3, k4, ← hE, wrap_small]
    rw [hI]
    exact ⟨by simp [e1], by simp [e2], by simp [e3], by simp, rfl, rfl, hO, hi3⟩
  · have hg := hbad hz
    have hz2 : (E != 0) = true := by simpa using hz
    simp -implicitDefEqProofs (disch := omega) [e1, e2, e3, e7, ht, ho, hlo, h, b1, vd, ix, jx, g2, g3, g4, col_f1, col_f2, ceV, wd, a1, a2, a3, a4, c_rCheck, k_rCheck, k1, k2, k3, k4, ← hE, hz, hz2, hg])
def rowE (objs : List AO) (cols : List Co) (K : Int) (row : List Ce) : Int := if chkR cols K = 0 then cellsN objs cols cols.length row else chkR cols K
def keyE (objs : List AO) (cols : List Co) (K : Int) (row : List Ce) : Int := if chkR cols K = 0 then cellsN objs cols K.toNat row else chkR cols K
theorem cellsN_old {objs O : List AO} {cols : List Co} {n : Nat} {row : List Ce} (hk : ∀ i, i < row.length → ceOk objs (nth row i) = true) (ho : Old objs O) : cellsN O cols n row = cellsN objs cols n row := by
  unfold cellsN
  split
  · rename_i h
    exact firstE_congr fun j _ hj => chkC_old _ (hk j (by omega)) ho
  · rfl
theorem rowE_old {objs O : List AO} {cols : List Co} {K : Int} {row : List Ce} (hk : ∀ i, i < row.length → ceOk objs (nth row i) = true) (ho : Old objs O) : rowE O cols K row = rowE objs cols K row := by unfold rowE; rw [cellsN_old hk ho]
theorem keyE_old {objs O : List AO} {cols : List Co} {K : Int} {row : List Ce} (hk : ∀ i, i < row.length → ceOk objs (nth row i) = true) (ho : Old objs O) : keyE O cols K row = keyE objs cols K row := by unfold keyE; rw [cellsN_old hk ho]
noncomputable def k_Row : Ab.Spec := con2 some some fun s w objs => match schD objs s, rowR objs w with
  | some (cols, K), some row => some (.int .i64 (rowE objs cols K row), none)
  | _, _ => none
noncomputable def T_Row : CallF := withF T_rcells 16 k_Row
theorem T_Row_ok : CallOk Tryd.prog T_Row := con_of (A := annOf [] [] [] false []) fit T_rcells_ok (fn := Tryd.f16) (by kernel_rfl) (by kernel_rfl) (by
  intro args objs r h0
  have c_schCheck : ∀ a o, T_rcells 12 a o = k_schCheck a o := fun _ _ => rfl
  have c_cells : ∀ a o, T_rcells 54 a o = k_cells a o := fun _ _ => rfl
  obtain ⟨s, w, _, _, rfl, hs, hw, hR⟩ := con2_inv h0
  cases hs; cases hw
  split at hR
  case h_2 => cases hR
  rename_i cols K row hsc hr
  cases hR
  obtain ⟨v, rfl, hv, vd, vo, vf, vc, vn, vi, hc, hl⟩ := schF hsc
  obtain ⟨hw, wd, wn, wi, wk⟩ := rowF hr
  obtain ⟨O, hO⟩ : ∃ O, O = objs ++ [.cells [v, .int .i64 K] 0] := ⟨_, rfl⟩
  have hold : Old objs O := by rw [hO]; exact Old.ext _ _
  have s1 := (k_sch (schD_old hsc hold)).1
  have hc2 := colR_old hc hold
  have hr2 := rowR_old hr hold
  have b1 : Ab.getObj O objs.length 0 = some [v, .int .i64 K] := by rw [hO]; simp
  rw [hO] at s1 hc2 hr2
  have he := cellsN_old (n := cols.length) (cols := cols) wk hold
  rw [← cellsE_all, hO] at he
  refine .go _ rfl rfl ?_
  unfold rowE
  rcases chk_or cols K with hg | hg
  · rw [hg] at s1
    simp -implicitDefEqProofs (disch := omega) [vd, c_schCheck, s1, hg, wd, c_cells, k_cells, hc2, hr2, he]
  · rw [hg] at s1
    simp -implicitDefEqProofs (disch := omega) [vd, c_schCheck, s1, hg])
noncomputable def k_Key : Ab.Spec := con2 some some fun s w objs => match schD objs s, rowR objs w with
  | some (cols, K), some row => some (.int .i64 (keyE objs cols K row), none)
  | _, _ => none
noncomputable def T_Key : CallF := withF T_Row 18 k_Key
theorem T_Key_ok : CallOk Tryd.prog T_Key := con_of (A := annOf [] [] [] false []) fit T_Row_ok (fn := Tryd.f18) (by kernel_rfl) (by kernel_rfl) (by
  intro args objs r h0
  have c_schCheck : ∀ a o, T_Row 12 a o = k_schCheck a o := fun _ _ => rfl
  have c_cells : ∀ a o, T_Row 54 a o = k_cells a o := fun _ _ => rfl
  obtain ⟨s, w, _, _, rfl, hs, hw, hR⟩ := con2_inv h0
  cases hs; cases hw
  split at hR
  case h_2 => cases hR
  rename_i cols K row hsc hr
  cases hR
  obtain ⟨v, rfl, hv, vd, vo, vf, vc, vn, vi, hc, hl⟩ := schF hsc
  obtain ⟨hw, wd, wn, wi, wk⟩ := rowF hr
  obtain ⟨O, hO⟩ : ∃ O, O = objs ++ [.cells [v, .int .i64 K] 0] := ⟨_, rfl⟩
  have hold : Old objs O := by rw [hO]; exact Old.ext _ _
  have s1 := (k_sch (schD_old hsc hold)).1
  have hr2 := rowR_old hr hold
  refine .go _ rfl rfl ?_
  unfold keyE
  rcases chk_or cols K with hg | hg
  · rw [hg] at s1
    obtain ⟨p1, p2, p3, p4, p5⟩ := chk_pos hg
    obtain ⟨n, rfl⟩ := Int.eq_ofNat_of_zero_le (show 0 ≤ K by omega)
    obtain ⟨u, cu, hu⟩ := (hv.old hold).cut (P := Tryd.prog) u22 z89 none (some (.int .i64 (n : Int))) 0 n rfl (by simp [boundV]) (by omega) (by omega)
    have ef : ((flatV coV cols).take (n * 3)).drop (0 * 3) = flatV coV (cols.take n) := by rw [Nat.zero_mul, List.drop_zero, flatV_take coV_len]
    have el : n - 0 = (cols.take n).length := by rw [List.length_take]; omega
    rw [ef, el] at hu
    have hu2 := hu.rec coV_len (d := coD) fun a _ => coD_coV a
    have ud := hu.dem
    have he := cellsN_old (n := n) (cols := cols) wk hold
    rw [← cellsE_take (by omega)] at he
    rw [hO] at s1 hu2 hr2 he
    simp -implicitDefEqProofs (disch := omega) [vd, c_schCheck, s1, hg, cu, ud, wd, c_cells, k_cells, hu2, hr2, he]
  · rw [hg, hO] at s1
    simp -implicitDefEqProofs (disch := omega) [vd, c_schCheck, s1, hg])
noncomputable def k_rRow : Ab.Spec := con2 some some fun s w objs => match schD objs s, rowR objs w with
  | some (cols, K), some row => some (.int .i64 (rowE objs cols K row), none)
  | _, _ => none
noncomputable def T_rRow : CallF := withF T_Key 17 k_rRow
theorem T_rRow_ok : CallOk Tryd.prog T_rRow := con_of (A := annOf [] [] [] false []) fit T_Key_ok (fn := Tryd.f17) (by kernel_rfl) (by kernel_rfl) (by
  intro args objs r h0
  have c_rSchema : ∀ a o, T_Key 13 a o = k_rSchema a o := fun _ _ => rfl
  have c_rcells : ∀ a o, T_Key 55 a o = k_rcells a o := fun _ _ => rfl
  obtain ⟨s, w, _, _, rfl, hs, hw, hR⟩ := con2_inv h0
  cases hs; cases hw
  split at hR
  case h_2 => cases hR
  rename_i cols K row hsc hr
  cases hR
  obtain ⟨v, rfl, hv, vd, vo, vf, vc, vn, vi, hc, hl⟩ := schF hsc
  obtain ⟨hw, wd, wn, wi, wk⟩ := rowF hr
  obtain ⟨O, hO⟩ : ∃ O, O = objs ++ [.cells [v, .int .i64 K] 0] := ⟨_, rfl⟩
  have hold : Old objs O := by rw [hO]; exact Old.ext _ _
  have hs2 := schD_old hsc hold
  have s1 := (k_sch hs2).2
  have hr2 := rowR_old hr hold
  have he := cellsN_old (n := cols.length) (cols := cols) wk hold
  rw [hO] at s1 hs2 hr2 he
  refine .go _ rfl rfl ?_
  unfold rowE
  rcases chk_or cols K with hg | hg
  · rw [hg] at s1
    simp -implicitDefEqProofs (disch := omega) [vd, vn, c_rSchema, s1, hg, wd, c_rcells, k_rcells, hs2, hr2, he]
  · rw [hg] at s1
    simp -implicitDefEqProofs (disch := omega) [vd, c_rSchema, s1, hg])
noncomputable def k_rKey : Ab.Spec := con2 some some fun s w objs => match schD objs s, rowR objs w with
  | some (cols, K), some row => some (.int .i64 (keyE objs cols K row), none)
  | _, _ => none
noncomputable def T_rKey : CallF := withF T_rRow 19 k_rKey
theorem T_rKey_ok : CallOk Tryd.prog T_rKey := con_of (A := annOf [] [] [] false []) fit T_rRow_ok (fn := Tryd.f19) (by kernel_rfl) (by kernel_rfl) (by
  intro args objs r h0
  have c_rSchema : ∀ a o, T_rRow 13 a o = k_rSchema a o := fun _ _ => rfl
  have c_rcells : ∀ a o, T_rRow 55 a o = k_rcells a o := fun _ _ => rfl
  obtain ⟨s, w, _, _, rfl, hs, hw, hR⟩ := con2_inv h0
  cases hs; cases hw
  split at hR
  case h_2 => cases hR
  rename_i cols K row hsc hr
  cases hR
  obtain ⟨v, rfl, hv, vd, vo, vf, vc, vn, vi, hc, hl⟩ := schF hsc
  obtain ⟨hw, wd, wn, wi, wk⟩ := rowF hr
  obtain ⟨O, hO⟩ : ∃ O, O = objs ++ [.cells [v, .int .i64 K] 0] := ⟨_, rfl⟩
  have hold : Old objs O := by rw [hO]; exact Old.ext _ _
  have hs2 := schD_old hsc hold
  have s1 := (k_sch hs2).2
  have hr2 := rowR_old hr hold
  have he := cellsN_old (n := K.toNat) (cols := cols) wk hold
  rw [hO] at s1 hs2 hr2 he
  refine .go _ rfl rfl ?_
  unfold keyE
  rcases chk_or cols K with hg | hg
  · rw [hg] at s1
    obtain ⟨p1, p2, p3, p4, p5⟩ := chk_pos hg
    have p0 : 0 ≤ K := by omega
    simp -implicitDefEqProofs (disch := omega) [vd, vn, c_rSchema, s1, hg, wd, c_rcells, k_rcells, hs2, hr2, he, p0, p5]
  · rw [hg] at s1
    simp -implicitDefEqProofs (disch := omega) [vd, c_rSchema, s1, hg])

end Go.Proofs.YtnbgmclbbkfhhaaDoor.B

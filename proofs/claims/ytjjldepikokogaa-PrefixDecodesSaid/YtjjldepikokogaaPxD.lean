import Derived.Test.YtjjldepikokogaaPxC
set_option linter.unusedSimpArgs false
set_option linter.unusedVariables false
set_option linter.unusedSectionVars false
set_option maxRecDepth 20000
set_option maxHeartbeats 1000000
namespace Go.Proofs.Ytjjldepikokogaa.B
open Go Go.Ab
theorem piece_eq (l : List Int) (q n m : Nat) (h : m = q + n) : pieceZ l (q : Int) ((m : Nat) : Int) = (l.drop q).take n := by
  subst h
  unfold pieceZ
  rw [Int.toNat_natCast, Int.toNat_natCast, List.drop_take]
  congr 1; omega
theorem textW_cases (b last : List Int) (whole : Bool) (k m to : Nat) (h0 : (textW b last whole k m to).err = 0) : k ≤ last.length ∧ (whole = true → k = 0) ∧ m + k ≤ 200 ∧ to + m ≤ b.length ∧ (whole = false → sharedN last (textS b last k m to) = k) ∧ textW b last whole k m to = ⟨textS b last k m to, ((to + m : Nat) : Int), 0⟩ := by
  unfold textW at h0 ⊢
  split at h0
  · cases h0
  split at h0
  · cases h0
  split at h0
  · cases h0
  split at h0
  · cases h0
  rename_i c1 c2 c3 c4
  rw [if_neg c1, if_neg c2, if_neg c3, if_neg c4]
  refine ⟨by omega, fun hw => ?_, by omega, by omega, fun hw => ?_, rfl⟩
  · rcases Nat.eq_zero_or_pos k with q | q
    · exact q
    · exact absurd (.inr ⟨hw, q⟩) c1
  · exact Decidable.byContradiction fun q => c4 ⟨hw, q⟩
theorem textZ_cases {b last : List Int} {p : Int} {whole : Bool} (h0 : (textZ b last p whole).err = 0) : ∃ k n1 m to, M.getR b p = (k, n1, 0) ∧ M.getR b n1 = (m, to, 0) ∧ textZ b last p whole = textW b last whole k.toNat m.toNat to.toNat ∧ (textW b last whole k.toNat m.toNat to.toNat).err = 0 := by
  obtain ⟨k, n1, e1, hg1⟩ : ∃ k n1 e1, M.getR b p = (k, n1, e1) := ⟨_, _, _, rfl⟩
  by_cases he1 : e1 = 0
  case neg => rw [textZ_e1 hg1 he1] at h0; exact absurd h0 he1
  subst he1
  obtain ⟨m, to, e2, hg2⟩ : ∃ m to e2, M.getR b n1 = (m, to, e2) := ⟨_, _, _, rfl⟩
  by_cases he2 : e2 = 0
  case neg => rw [textZ_e2 hg1 hg2 he2] at h0; exact absurd h0 he2
  subst he2
  have ht := textZ_ok (last := last) (whole := whole) hg1 hg2
  exact ⟨k, n1, m, to, hg1, hg2, ht, by rw [← ht]; exact h0⟩
theorem textZ_len {b last : List Int} {p : Int} {whole : Bool} (h0 : (textZ b last p whole).err = 0) : (textZ b last p whole).s.length ≤ 200 ∧ 0 ≤ (textZ b last p whole).next ∧ (textZ b last p whole).next ≤ b.length := by
  obtain ⟨k, n1, m, to, -, -, h3, h4⟩ := textZ_cases h0
  obtain ⟨c1, c2, c3, c4, c5, c6⟩ := textW_cases _ _ _ _ _ _ h4
  rw [h3, c6]
  refine ⟨?_, by simp only; omega, by simp only; omega⟩
  have : (textS b last k.toNat m.toNat to.toNat).length ≤ k.toNat + m.toNat := by unfold textS; rw [List.length_append, List.length_take, List.length_take]; omega
  simp only; omega
theorem textZ_bad {b last : List Int} {p : Int} {whole : Bool} (h0 : (textZ b last p whole).err ≠ 0) : (textZ b last p whole).next = 0 := by
  unfold textZ at h0 ⊢
  obtain ⟨k, n1, e1, hg1⟩ : ∃ k n1 e1, M.getR b p = (k, n1, e1) := ⟨_, _, _, rfl⟩
  rw [hg1] at h0 ⊢
  simp only at h0 ⊢
  split
  · rfl
  rename_i q1
  rw [if_neg q1] at h0
  split
  · rfl
  rename_i q2
  rw [if_neg q2] at h0
  unfold textW at h0 ⊢
  split
  · rfl
  rename_i c1; rw [if_neg c1] at h0
  split
  · rfl
  rename_i c2; rw [if_neg c2] at h0
  split
  · rfl
  rename_i c3; rw [if_neg c3] at h0
  split
  · rfl
  rename_i c4; rw [if_neg c4] at h0
  exact absurd rfl h0
/-- What is decoded behind i texts: the texts, the place, the last one, the error. -/
structure Dec where
  ts : List (List Int)
  p : Int
  last : List Int
  err : Int
def decI (b : List Int) (p0 : Int) : Nat → Dec
  | 0 => ⟨[], p0, [], 0⟩
  | i + 1 => if (decI b p0 i).err ≠ 0 then decI b p0 i else
    if (textZ b (decI b p0 i).last (decI b p0 i).p (decide (i % 16 = 0))).err ≠ 0 then ⟨(decI b p0 i).ts, (decI b p0 i).p, (decI b p0 i).last, (textZ b (decI b p0 i).last (decI b p0 i).p (decide (i % 16 = 0))).err⟩
    else ⟨(decI b p0 i).ts ++ [(textZ b (decI b p0 i).last (decI b p0 i).p (decide (i % 16 = 0))).s], (textZ b (decI b p0 i).last (decI b p0 i).p (decide (i % 16 = 0))).next, (textZ b (decI b p0 i).last (decI b p0 i).p (decide (i % 16 = 0))).s, 0⟩
theorem decI_stuck {b : List Int} {p0 : Int} {i : Nat} (h : (decI b p0 i).err ≠ 0) : ∀ j, decI b p0 (i + j) = decI b p0 i
  | 0 => rfl
  | j + 1 => by
    have ih := decI_stuck h j
    show decI b p0 ((i + j) + 1) = _
    rw [decI, if_pos (by rw [ih]; exact h), ih]
theorem decI_bad {b : List Int} {p0 : Int} {i : Nat} (h : (decI b p0 i).err = 0) (ht : (textZ b (decI b p0 i).last (decI b p0 i).p (decide (i % 16 = 0))).err ≠ 0) {n : Nat} (hn : i < n) : (decI b p0 n).err = (textZ b (decI b p0 i).last (decI b p0 i).p (decide (i % 16 = 0))).err := by
  have e : decI b p0 (i + 1) = ⟨(decI b p0 i).ts, (decI b p0 i).p, (decI b p0 i).last, (textZ b (decI b p0 i).last (decI b p0 i).p (decide (i % 16 = 0))).err⟩ := by
    rw [decI, if_neg (by simp [h]), if_pos ht]
  have hs := decI_stuck (i := i + 1) (by rw [e]; exact ht) (n - (i + 1))
  rw [show i + 1 + (n - (i + 1)) = n by omega] at hs
  rw [hs, e]
theorem decI_ok {b : List Int} {p0 : Int} {i : Nat} (h : (decI b p0 i).err = 0) (ht : (textZ b (decI b p0 i).last (decI b p0 i).p (decide (i % 16 = 0))).err = 0) : decI b p0 (i + 1) = ⟨(decI b p0 i).ts ++ [(textZ b (decI b p0 i).last (decI b p0 i).p (decide (i % 16 = 0))).s], (textZ b (decI b p0 i).last (decI b p0 i).p (decide (i % 16 = 0))).next, (textZ b (decI b p0 i).last (decI b p0 i).p (decide (i % 16 = 0))).s, 0⟩ := by
  rw [decI, if_neg (by simp [h]), if_neg (by simp [ht])]
theorem decI_facts {b : List Int} {p0 : Int} (h0 : 0 ≤ p0 ∧ p0 ≤ b.length) : ∀ i, (decI b p0 i).err = 0 → (decI b p0 i).ts.length = i ∧ (decI b p0 i).last.length ≤ 200 ∧ 0 ≤ (decI b p0 i).p ∧ (decI b p0 i).p ≤ b.length ∧ (∀ s ∈ (decI b p0 i).ts, s.length ≤ 200) ∧ ((decI b p0 i).ts = [] ∧ (decI b p0 i).last = [] ∨ ∃ ts, (decI b p0 i).ts = ts ++ [(decI b p0 i).last])
  | 0, _ => ⟨rfl, by simp [decI], h0.1, h0.2, by simp [decI], .inl ⟨rfl, rfl⟩⟩
  | i + 1, h => by
    by_cases he : (decI b p0 i).err = 0
    case neg => rw [decI, if_pos he] at h; exact absurd h he
    obtain ⟨f1, f2, f3, f4, f5, f6⟩ := decI_facts h0 i he
    by_cases ht : (textZ b (decI b p0 i).last (decI b p0 i).p (decide (i % 16 = 0))).err = 0
    case neg => rw [decI, if_neg (by simp [he]), if_pos ht] at h; exact absurd h ht
    obtain ⟨t1, t2, t3⟩ := textZ_len ht
    rw [decI_ok he ht]
    refine ⟨by simp [f1], t1, t2, t3, fun s hs => ?_, .inr ⟨_, rfl⟩⟩
    rcases List.mem_append.1 hs with q | q
    · exact f5 s q
    · simp at q; rw [q]; exact t1
def decErr (b : List Int) : Int := match M.getR b 0 with
  | (n, p0, e) => if e ≠ 0 then e else if 4096 < n then 4 else if (decI b p0 n.toNat).err ≠ 0 then (decI b p0 n.toNat).err else if (decI b p0 n.toNat).p < b.length then 3 else 0
def decTs (b : List Int) : List (List Int) := match M.getR b 0 with
  | (n, p0, e) => if decErr b ≠ 0 then [] else (decI b p0 n.toNat).ts
theorem decErr_e {b : List Int} {n p0 e : Int} (h : M.getR b 0 = (n, p0, e)) (he : e ≠ 0) : decErr b = e := by unfold decErr; rw [h]; simp [he]
theorem decErr_of {b : List Int} {n p0 : Int} (h : M.getR b 0 = (n, p0, 0)) : decErr b = if 4096 < n then 4 else if (decI b p0 n.toNat).err ≠ 0 then (decI b p0 n.toNat).err else if (decI b p0 n.toNat).p < b.length then 3 else 0 := by unfold decErr; rw [h]; simp
theorem decTs_of {b : List Int} {n p0 : Int} (h : M.getR b 0 = (n, p0, 0)) (h0 : decErr b = 0) : decTs b = (decI b p0 n.toNat).ts := by unfold decTs; rw [h]; simp [h0]
theorem decTs_bad {b : List Int} (h0 : decErr b ≠ 0) : decTs b = [] := by unfold decTs; split; rw [if_pos h0]
/-- Texts as the program hands them out: none is told as nil. -/
def emp (ts : List (List Int)) : Bool := ts.all fun s => s.isEmpty
def cellN (ts : List (List Int)) (s : List Int) : V := if emp (ts ++ [s]) = true then .nils else .lst .frozen (ints .u8 s) s.length
def cellsN : List (List Int) → List (List Int) → List V
  | _, [] => []
  | p, s :: ss => cellN p s :: cellsN (p ++ [s]) ss
theorem cellsN_snoc : ∀ (p ts : List (List Int)) (s : List Int), cellsN p (ts ++ [s]) = cellsN p ts ++ [cellN (p ++ ts) s]
  | p, [], s => by simp [cellsN]
  | p, t :: ts, s => by simp [cellsN, cellsN_snoc (p ++ [t]) ts s]
theorem cellsN_len : ∀ (p ts : List (List Int)), (cellsN p ts).length = ts.length
  | p, [] => rfl
  | p, t :: ts => by simp [cellsN, cellsN_len (p ++ [t]) ts]
theorem cellN_of (ts : List (List Int)) (s : List Int) : ofInts .u8 (cellN ts s) = some s := by
  unfold cellN
  split
  · rename_i h
    have : s = [] := by simp [emp] at h; exact h.2
    rw [this]; rfl
  · exact ofInts_lst rfl
theorem cellN_ok (ts : List (List Int)) (s : List Int) : isDef (cellN ts s) = true ∧ cellsOf (cellN ts s) = [cellN ts s] ∧ oneCell (cellN ts s) = true ∧ demote (cellN ts s) = cellN ts s ∧ ∀ b, Ab.noref b (cellN ts s) = true := by
  unfold cellN
  split
  · exact ⟨rfl, rfl, rfl, rfl, fun _ => rfl⟩
  · exact ⟨rfl, rfl, rfl, rfl, fun _ => by simp⟩
theorem cellsN_of : ∀ (p ts : List (List Int)), ofCells (ofInts .u8) (cellsN p ts) = some ts
  | p, [] => rfl
  | p, t :: ts => ofCells_cons (cellN_of p t) (cellsN_of (p ++ [t]) ts)
theorem cellsN_refs (b : Nat) : ∀ (p ts : List (List Int)), norefs b (cellsN p ts) = true
  | p, [] => rfl
  | p, t :: ts => by simp [cellsN, norefs, (cellN_ok p t).2.2.2.2 b, cellsN_refs b (p ++ [t]) ts]
def decV (ts : List (List Int)) : V := if ts = [] then .nils else .lst (.fresh 1 false) (cellsN [] ts) ts.length
noncomputable def k_pDecode : Ab.Spec := con1 (ofInts .u8) fun b _ => bnd b.length 140737488352000 (if b8 b = true then some (.tup [decV (decTs b), .int .i64 (decErr b)], none) else none)
noncomputable def T_pDecode : CallF := withF T_ptext 14 k_pDecode
theorem T_pDecode_ok : CallOk Try.prog T_pDecode := con_of (A := annOf [] [] [] false []) fit T_ptext_ok (fn := Try.f14) (by kernel_rfl) (by kernel_rfl) (by
  intro args objs r h0
  have c_VGet : ∀ a o, T_ptext 33 a o = k_VGet a o := fun _ _ => rfl
  have c_ptext : ∀ a o, T_ptext 34 a o = k_ptext a o := fun _ _ => rfl
  obtain ⟨v, b, rfl, ha, hR⟩ := con1_inv h0
  obtain ⟨hl, hR⟩ := bnd_inv hR
  split at hR
  case isFalse => cases hR
  rename_i h8
  cases hR
  have hBy := b8_bytes h8
  obtain ⟨vd, vn, vi, -⟩ := bs ha
  refine .go _ rfl rfl ?_
  obtain ⟨n, p0, e, hg⟩ : ∃ n p0 e, M.getR b 0 = (n, p0, e) := ⟨_, _, _, rfl⟩
  have gv : getVR b 0 = some (.tup [.int .u64 n, .int .i64 p0, .int .i64 e], none) := by unfold getVR; rw [hg]
  by_cases he : e = 0
  case neg =>
    have he' : (e != 0) = true := by simpa using he
    have hd := decErr_e hg he
    have hts := decTs_bad (b := b) (by rw [hd]; exact he)
    simp -implicitDefEqProofs (disch := omega) [vd, ha, c_VGet, k_VGet, h8, gv, hd, hts, decV, he, he']
  subst he
  obtain ⟨g1, g2, g3, g4, g5, g6, g7⟩ := M.getR_ok hBy hg
  have hde := decErr_of hg
  by_cases hbig : 4096 < n
  · rw [if_pos hbig] at hde
    have hts := decTs_bad (b := b) (by rw [hde]; decide)
    simp -implicitDefEqProofs (disch := omega) [vd, ha, c_VGet, k_VGet, h8, gv, hde, hts, decV, hbig]
  rw [if_neg hbig] at hde
  obtain ⟨N, rfl⟩ := Int.eq_ofNat_of_zero_le g5
  rw [Int.toNat_natCast] at hde
  have hbig' : ¬ 4096 < N := by omega
  simp -implicitDefEqProofs (disch := omega) [vd, ha, c_VGet, k_VGet, h8, gv, hbig']
  obtain ⟨I, hI⟩ : ∃ I : Nat → St → Prop, I = (fun (i : Nat) (s : St) => (decI b p0 i).err = 0 ∧ s.env 0 = v ∧ s.env 23 = .int .u64 N ∧ s.env 24 = .int .u64 i ∧ s.env 5 = .int .i64 (decI b p0 i).p ∧ (∃ lv, s.env 8 = lv ∧ ofIntsR .u8 objs lv = some (decI b p0 i).last ∧ demote lv = lv ∧ isNils lv = emp (decI b p0 i).ts) ∧ s.objs = objs ∧ s.low = objs.length ∧ (i = 0 ∧ s.env 7 = .nils ∧ s.toks = [] ∨ 0 < i ∧ s.env 7 = .lst (.tok 0 1) (cellsN [] (decI b p0 i).ts) i ∧ s.toks = [i])) := ⟨_, rfl⟩
  refine .up N I (by rw [hI]; exact ⟨rfl, by simp, by simp, by simp, by simp [decI], ⟨.nils, by simp, rfl, rfl, rfl⟩, by simp, by simp, .inl ⟨rfl, by simp, by simp⟩⟩) ?_
  intro i s hi hs
  rw [hI] at hs
  obtain ⟨he, g0, g23, g24, g5', ⟨lv, g8, hla, ld, lnil⟩, ho, hlo, h7⟩ := hs
  obtain ⟨f1, f2, f3, f4, f5, f6⟩ := decI_facts (b := b) (p0 := p0) ⟨by omega, by omega⟩ i he
  obtain ⟨D, hD⟩ : ∃ D, D = decI b p0 i := ⟨_, rfl⟩
  rcases Nat.lt_or_ge i N with h | h
  · have hmod : (((i : Int).tmod 16) == 0) = decide (i % 16 = 0) := by
      rw [Int.tmod_eq_emod_of_nonneg (by omega)]
      by_cases q : i % 16 = 0
      · rw [decide_eq_true q]; simp; omega
      · rw [decide_eq_false q]; simp; omega
    have hmod2 : decide ((i : Int) % 16 = 0) = decide (i % 16 = 0) := decide_eq_decide.2 (by omega)
    have hmod3 : (((i : Int) % 16) == 0) = decide (i % 16 = 0) := by
      by_cases q : i % 16 = 0
      · rw [decide_eq_true q]; simp; omega
      · rw [decide_eq_false q]; simp; omega
    have hmod4 : ((i : Int) % 16 = 0) = (i % 16 = 0) := propext (by omega)
    by_cases ht : (textZ b (decI b p0 i).last (decI b p0 i).p (decide (i % 16 = 0))).err = 0
    · have hok := decI_ok he ht
      obtain ⟨t1, t2, t3⟩ := textZ_len ht
      have lnil' := lnil
      rw [← hD] at ht hok t1 t2 t3 hla g5' h7 f1 f2 f3 f4 lnil
      obtain ⟨Z, hZ⟩ : ∃ Z, Z = textZ b D.last D.p (decide (i % 16 = 0)) := ⟨_, rfl⟩
      rw [← hZ] at ht hok t1 t2 t3
      have htx : demote (txtV (emp D.ts) Z) = cellN D.ts Z.s := by
        unfold txtV cellN
        rw [if_neg (by simp [ht])]
        have : emp (D.ts ++ [Z.s]) = (emp D.ts && Z.s.isEmpty) := by simp [emp]
        by_cases q1 : emp D.ts = true
        · by_cases q2 : Z.s = []
          · rw [if_pos ⟨q1, q2⟩, if_pos (by rw [this, q1, q2]; rfl)]; rfl
          · rw [if_neg (fun q => q2 q.2), if_neg (by rw [this, q1]; simpa using q2)]; rfl
        · rw [if_neg (fun q => q1 q.1), if_neg (by rw [this]; simp [q1])]; rfl
      have hnt : ntup (cellN D.ts Z.s) = some (cellN D.ts Z.s) := by unfold cellN; split <;> rfl
      obtain ⟨k1, k2, k3, k4, k5⟩ := cellN_ok D.ts Z.s
      have l1 := llit1 k1 k2
      have cs := cellsN_snoc [] D.ts Z.s
      rw [List.nil_append] at cs
      have clen := cellsN_len [] D.ts
      have hn1 : isNils (cellN D.ts Z.s) = emp (D.ts ++ [Z.s]) := by
        unfold cellN; split
        · rename_i q; rw [q]; rfl
        · rename_i q; simp at q; rw [q]; rfl
      have fin : ∀ (j : Nat) (s' : St), j = i + 1 → s'.env 0 = v → s'.env 23 = .int .u64 N → s'.env 24 = .int .u64 ((i : Int) + 1) → s'.env 5 = .int .i64 Z.next → s'.env 8 = cellN D.ts Z.s → s'.objs = objs → s'.low = objs.length → s'.env 7 = .lst (.tok 0 1) (cellsN [] (D.ts ++ [Z.s])) (i + 1) → s'.toks = [i + 1] → I j s' := by
        intro j s' hj z1 z2 z3 z4 z5 z6 z7 z8 z9
        subst hj
        rw [hI]
        exact ⟨by rw [hok], z1, z2, z3, by rw [hok]; exact z4, ⟨_, z5, by rw [hok]; exact ofIntsR_of (cellN_of _ _), k4, by rw [hok]; exact hn1⟩, z6, z7, .inr ⟨by omega, by rw [hok]; exact z8, z9⟩⟩
      have wi1 : IntKind.u64.wrap ((i : Int) + 1) = (i : Int) + 1 := wrap_u64 (by omega) (by omega)
      rcases h7 with ⟨rfl, g7, ht0⟩ | ⟨hpos, g7, ht0⟩
      · have hts0 : D.ts = [] := List.eq_nil_of_length_eq_zero f1
        rw [hts0] at fin l1 htx hnt k1 k3 lnil
        have cs0 : cellsN [] ([] ++ [Z.s]) = [cellN [] Z.s] := rfl
        rw [cs0] at fin
        rw [hts0] at k4
        have wz1 : IntKind.u64.wrap 1 = 1 := rfl
        have hZ0 : textZ b D.last D.p true = Z := by rw [hZ]; rfl
        simp -implicitDefEqProofs (disch := omega) [g0, g23, g24, g5', g8, g7, ht0, ho, hlo, vd, ld, ha, h, c_ptext, k_ptext, hla, h8, f2, lnil, hZ0, ht, htx, hnt, k1, k3, k4, l1, wi1, wz1]
        refine fin _ _ rfl (by simp [g0]) (by simp [g23]) (by simp) (by simp) (by simp) (by simp) (by simp) (by simp) (by simp)
      · simp -implicitDefEqProofs (disch := omega) [g0, g23, g24, g5', g8, g7, ht0, ho, hlo, vd, ld, ha, h, c_ptext, k_ptext, hla, h8, f2, lnil, hmod, hmod2, hmod3, hmod4, ← hZ, ht, htx, hnt, k1, k3, k4, l1, wi1, clen, f1, Nat.mod_one]
        refine fin _ _ rfl (by simp [g0]) (by simp [g23]) (by simp) (by simp) (by simp) (by simp) (by simp) (by simp [cs]) (by simp)
    · have hbad := decI_bad he ht h
      have hn0 := textZ_bad ht
      rw [← hD] at ht hbad hla g5' f2 lnil hn0
      obtain ⟨Z, hZ⟩ : ∃ Z, Z = textZ b D.last D.p (decide (i % 16 = 0)) := ⟨_, rfl⟩
      rw [← hZ] at ht hbad hn0
      have hde2 : decErr b = Z.err := by rw [hde, if_pos (by rw [hbad]; exact ht), hbad]
      have hts := decTs_bad (b := b) (by rw [hde2]; exact ht)
      have ht' : (Z.err != 0) = true := by simpa using ht
      have htx : txtV (emp D.ts) Z = .nils := by unfold txtV; rw [if_pos ht]
      simp -implicitDefEqProofs (disch := omega) [g0, g23, g24, g5', g8, ho, hlo, vd, ld, ha, h, c_ptext, k_ptext, hla, h8, f2, lnil, hmod, hmod2, hmod3, hmod4, ← hZ, ht, ht', htx, hn0, hde2, hts, decV]
      try (rcases h7 with ⟨rfl, g7, ht0⟩ | ⟨hpos, g7, ht0⟩ <;> simp -implicitDefEqProofs [g7, ht0])
  · obtain rfl : i = N := by omega
    rw [if_neg (by simp [he])] at hde
    by_cases hlt : (decI b p0 i).p < b.length
    · rw [if_pos hlt] at hde
      have hts := decTs_bad (b := b) (by rw [hde]; decide)
      simp -implicitDefEqProofs (disch := omega) [g0, g23, g24, g5', g8, ho, hlo, vn, hlt, hde, hts, decV]
    · rw [if_neg hlt] at hde
      have hts := decTs_of hg hde
      rw [Int.toNat_natCast] at hts
      rcases h7 with ⟨rfl, g7, ht0⟩ | ⟨hpos, g7, ht0⟩
      · have hts0 : (decI b p0 0).ts = [] := rfl
        simp -implicitDefEqProofs (disch := omega) [g0, g23, g24, g5', g8, g7, ht0, ho, hlo, vn, hlt, hde, hts, hts0, decV]
      · have hne : ¬ (decI b p0 i).ts = [] := fun q => by rw [q] at f1; simp at f1; omega
        have hr := cellsN_refs objs.length [] (decI b p0 i).ts
        have clen := cellsN_len [] (decI b p0 i).ts
        simp -implicitDefEqProofs (disch := omega) [g0, g23, g24, g5', g8, g7, ht0, ho, hlo, vn, hlt, hde, hts, decV, hne, hr, clen, f1])

end Go.Proofs.Ytjjldepikokogaa.B
set_option maxRecDepth 20000
set_option maxHeartbeats 1000000
namespace Go.Proofs.Ytjjldepikokogaa.B
open Go Go.Ab
/-! what is encoded is decoded; what is decoded was encoded -/
theorem nth_app_last {l : List (List Int)} {s : List Int} : nth (l ++ [s]) l.length = s := by rw [nth_app_r (Nat.le_refl _), Nat.sub_self]; rfl
theorem b8_of {l : List Int} (h : M.Bytes l) : b8 l = true := b8_iff.2 h
theorem shared_take {last s : List Int} : s = last.take (sharedN last s) ++ s.drop (sharedN last s) := by
  induction last generalizing s with
  | nil => cases s <;> simp [sharedN]
  | cons a p ih =>
    cases s with
    | nil => simp [sharedN]
    | cons b q =>
      unfold sharedN
      by_cases h : a = b
      · subst h; rw [if_pos rfl]; simp only [List.take_succ_cons, List.drop_succ_cons, List.cons_append]; rw [← ih]
      · rw [if_neg h]; simp
/-- The text ahead of the i-th, and whether none is shared. -/
def lastT (ss : List (List Int)) (i : Nat) : List Int := if i = 0 then [] else nth ss (i - 1)
theorem sameAt_eq (ss : List (List Int)) (i : Nat) : sameAt ss i = if i % 16 = 0 then 0 else sharedN (lastT ss i) (nth ss i) := by
  unfold sameAt lastT
  by_cases h : i % 16 = 0
  · rw [if_pos h, if_pos h]
  · rw [if_neg h, if_neg h, if_neg (by intro q; subst q; exact h rfl)]
theorem sameAt_split (ss : List (List Int)) (i : Nat) : sameAt ss i ≤ (lastT ss i).length ∧ nth ss i = (lastT ss i).take (sameAt ss i) ++ (nth ss i).drop (sameAt ss i) := by
  rw [sameAt_eq]
  by_cases h : i % 16 = 0
  · rw [if_pos h]; simp
  · rw [if_neg h]; exact ⟨(sharedN_le _ _).1, shared_take⟩
theorem textZ_put {ss : List (List Int)} {i : Nat} (A C : List Int) (h : (nth ss i).length ≤ 200) : textZ (A ++ (entB ss i ++ C)) (lastT ss i) (A.length : Int) (decide (i % 16 = 0)) = ⟨nth ss i, ((A ++ entB ss i).length : Int), 0⟩ := by
  obtain ⟨s1, s2⟩ := sameAt_split ss i
  have s3 := sameAt_le ss i
  obtain ⟨k, hk⟩ : ∃ k, k = sameAt ss i := ⟨_, rfl⟩
  obtain ⟨n, hn⟩ : ∃ n, n = (nth ss i).length - k := ⟨_, rfl⟩
  obtain ⟨X, hX⟩ : ∃ X, X = (nth ss i).drop k := ⟨_, rfl⟩
  have hXl : X.length = n := by rw [hX, hn, List.length_drop]
  have he : entB ss i = M.putL k ++ (M.putL n ++ X) := by unfold entB; rw [← hk, ← hn, ← hX]
  rw [← hk] at s1 s2 s3
  rw [← hX] at s2
  obtain ⟨L, hL⟩ : ∃ L, L = lastT ss i := ⟨_, rfl⟩
  rw [← hL] at s1 s2 ⊢
  rw [he]
  have g1 : M.getR (A ++ (M.putL k ++ (M.putL n ++ X) ++ C)) (A.length : Int) = ((k : Int), (A.length : Int) + (M.putL k).length, 0) := by
    have := M.getR_put A (M.putL n ++ X ++ C) (u := k) (by omega)
    rwa [show A ++ M.putL k ++ (M.putL n ++ X ++ C) = A ++ (M.putL k ++ (M.putL n ++ X) ++ C) by simp] at this
  have g2 : M.getR (A ++ (M.putL k ++ (M.putL n ++ X) ++ C)) ((A.length : Int) + (M.putL k).length) = ((n : Int), ((A ++ M.putL k ++ M.putL n).length : Int), 0) := by
    have := M.getR_put (A ++ M.putL k) (X ++ C) (u := n) (by omega)
    rw [show A ++ M.putL k ++ M.putL n ++ (X ++ C) = A ++ (M.putL k ++ (M.putL n ++ X) ++ C) by simp, show ((A ++ M.putL k).length : Int) = (A.length : Int) + (M.putL k).length by simp] at this
    rw [this]; simp; omega
  rw [textZ_ok g1 g2]
  simp only [Int.toNat_natCast]
  have hd : (A ++ (M.putL k ++ (M.putL n ++ X) ++ C)).drop (A ++ M.putL k ++ M.putL n).length = X ++ C := by
    rw [show A ++ (M.putL k ++ (M.putL n ++ X) ++ C) = (A ++ M.putL k ++ M.putL n) ++ (X ++ C) by simp]; simp
  have hS : textS (A ++ (M.putL k ++ (M.putL n ++ X) ++ C)) L k n (A ++ M.putL k ++ M.putL n).length = nth ss i := by
    unfold textS
    have hx : (X ++ C).take n = X := by rw [← hXl]; simp
    rw [hd, hx, ← s2]
  unfold textW
  rw [if_neg (by
    rintro (q | ⟨q1, q2⟩)
    · omega
    · have hm : i % 16 = 0 := by simpa using q1
      have : k = 0 := by rw [hk, sameAt_eq, if_pos hm]
      omega), if_neg (by omega), if_neg (by simp; omega), if_neg (by
    rintro ⟨q1, q2⟩
    rw [hS] at q2
    have hm : ¬ i % 16 = 0 := by simpa using q1
    exact q2 (by rw [hk, sameAt_eq, if_neg hm, hL])), hS]
  simp only [List.length_append, hXl]
  congr 1; omega
theorem decI_enc {ss : List (List Int)} (h : ∀ i, i < ss.length → (nth ss i).length ≤ 200) (C : List Int) : ∀ i, i ≤ ss.length → decI (encP ss ++ C) ((M.putL ss.length).length : Int) i = ⟨ss.take i, ((encT ss i).length : Int), lastT ss i, 0⟩
  | 0, _ => by simp [decI, encT, lastT]
  | i + 1, hi => by
    have ih := decI_enc h C i (by omega)
    have hsp : encP ss ++ C = encT ss i ++ (entB ss i ++ ((List.range' (i + 1) (ss.length - (i + 1))).flatMap (entB ss) ++ C)) := by
      unfold encP encT
      have : List.range ss.length = List.range i ++ (i :: List.range' (i + 1) (ss.length - (i + 1))) := by
        rw [List.range_eq_range', List.range_eq_range', show ss.length = i + (ss.length - i) by omega, ← List.range'_append_1, show i + (ss.length - i) - (i + 1) = ss.length - i - 1 by omega]
        congr 1
        rw [show ss.length - i = (ss.length - i - 1) + 1 by omega, List.range'_succ]; simp
      rw [this]; simp
    have ht := textZ_put (ss := ss) (i := i) (encT ss i) ((List.range' (i + 1) (ss.length - (i + 1))).flatMap (entB ss) ++ C) (h i (by omega))
    rw [← hsp] at ht
    have h0 : (decI (encP ss ++ C) ((M.putL ss.length).length : Int) i).err = 0 := by rw [ih]
    have hz : textZ (encP ss ++ C) (decI (encP ss ++ C) ((M.putL ss.length).length : Int) i).last (decI (encP ss ++ C) ((M.putL ss.length).length : Int) i).p (decide (i % 16 = 0)) = ⟨nth ss i, ((encT ss i ++ entB ss i).length : Int), 0⟩ := by rw [ih]; exact ht
    rw [decI_ok h0 (by rw [hz]), hz, ih, encT_succ]
    simp only [lastT, take_nth (l := ss) (i := i) (by omega)]
    simp
theorem dec_enc {ss : List (List Int)} (h1 : ss.length ≤ 4096) (h : ∀ i, i < ss.length → (nth ss i).length ≤ 200) : decErr (encP ss) = 0 ∧ decTs (encP ss) = ss ∧ decErr (encP ss ++ [0]) = 3 := by
  have key : ∀ C, M.getR (encP ss ++ C) 0 = ((ss.length : Int), ((M.putL ss.length).length : Int), 0) := fun C => by
    have := M.getR_put [] ((List.range ss.length).flatMap (entB ss) ++ C) (u := ss.length) (by omega)
    rw [show ([] : List Int) ++ M.putL ss.length ++ ((List.range ss.length).flatMap (entB ss) ++ C) = encP ss ++ C by simp [encP, encT]] at this
    simpa using this
  have d := fun C => decI_enc h C ss.length (Nat.le_refl _)
  have e : ∀ C, decErr (encP ss ++ C) = if ((encP ss).length : Int) < (encP ss ++ C).length then 3 else 0 := fun C => by
    rw [decErr_of (key C), if_neg (by omega), Int.toNat_natCast, d C, if_neg (by simp)]
    rfl
  have e0 := e []
  have k0 := key []
  have d0 := d []
  rw [List.append_nil] at e0 k0 d0
  rw [if_neg (by omega)] at e0
  refine ⟨e0, ?_, ?_⟩
  · rw [decTs_of k0 e0, Int.toNat_natCast, d0]; simp
  · rw [e, if_pos (by simp; omega)]
theorem encT_snoc_eq {ss : List (List Int)} {s : List Int} : ∀ i, i ≤ ss.length → ((List.range i).flatMap (entB (ss ++ [s]))) = (List.range i).flatMap (entB ss) := by
  intro i hi
  have : ∀ j ∈ List.range i, entB (ss ++ [s]) j = entB ss j := fun j hj => by
    have hj := List.mem_range.1 hj
    unfold entB sameAt
    rw [nth_app_l (by omega), nth_app_l (by omega)]
  rw [List.flatMap_def, List.flatMap_def, List.map_congr_left this]
theorem encP_snoc {ss : List (List Int)} {s : List Int} : (List.range (ss ++ [s]).length).flatMap (entB (ss ++ [s])) = (List.range ss.length).flatMap (entB ss) ++ entB (ss ++ [s]) ss.length := by
  rw [List.length_append, List.length_singleton, List.range_succ, List.flatMap_append, encT_snoc_eq _ (Nat.le_refl _)]
  simp
theorem textZ_bytes {b last : List Int} {p : Int} {whole : Bool} (hb : M.Bytes b) (h0 : (textZ b last p whole).err = 0) : ∃ k m : Nat, k ≤ last.length ∧ (whole = true → k = 0) ∧ (whole = false → sharedN last (textZ b last p whole).s = k) ∧ (textZ b last p whole).s = last.take k ++ (textZ b last p whole).s.drop k ∧ (textZ b last p whole).s.length = k + m ∧ 0 ≤ p ∧ p ≤ (textZ b last p whole).next ∧ (textZ b last p whole).next ≤ b.length ∧ b.take (textZ b last p whole).next.toNat = b.take p.toNat ++ (M.putL k ++ (M.putL m ++ (textZ b last p whole).s.drop k)) := by
  obtain ⟨k, n1, m, to, g1, g2, h3, h4⟩ := textZ_cases h0
  obtain ⟨c1, c2, c3, c4, c5, c6⟩ := textW_cases _ _ _ _ _ _ h4
  obtain ⟨a1, a2, a3, a4, a5, a6, a7⟩ := M.getR_ok hb g1
  obtain ⟨b1, b2, b3, b4, b5, b6, b7⟩ := M.getR_ok hb g2
  have hl := textS_len (b := b) (last := last) (k := k.toNat) (m := m.toNat) (to := to.toNat) c1 c4
  rw [h3, c6]
  have hd : (textS b last k.toNat m.toNat to.toNat).drop k.toNat = (b.drop to.toNat).take m.toNat := by
    unfold textS
    rw [List.drop_append, List.length_take, Nat.min_eq_left c1, Nat.sub_self, List.drop_zero, List.drop_of_length_le (by simp; omega), List.nil_append]
  have ht : (textS b last k.toNat m.toNat to.toNat) = last.take k.toNat ++ (textS b last k.toNat m.toNat to.toNat).drop k.toNat := by rw [hd]; rfl
  refine ⟨k.toNat, m.toNat, c1, c2, c5, ht, hl, a1, by simp only; omega, by simp only; omega, ?_⟩
  simp only [Int.toNat_natCast]
  rw [a7, b7, hd]
  have x1 : b.take (to.toNat + m.toNat) = b.take to.toNat ++ (b.drop to.toNat).take m.toNat := List.take_add
  have x2 : b.take to.toNat = b.take n1.toNat ++ (b.take to.toNat).drop n1.toNat := by
    have := (List.take_append_drop n1.toNat (b.take to.toNat)).symm
    rwa [List.take_take, Nat.min_eq_left (by omega)] at this
  have x3 : b.take n1.toNat = b.take p.toNat ++ (b.take n1.toNat).drop p.toNat := by
    have := (List.take_append_drop p.toNat (b.take n1.toNat)).symm
    rwa [List.take_take, Nat.min_eq_left (by omega)] at this
  rw [x1, ← List.append_assoc (b.take p.toNat), ← x3, ← List.append_assoc, ← x2]
theorem dec_facts {b : List Int} (hb : M.Bytes b) {p0 : Int} (h0 : 0 ≤ p0 ∧ p0 ≤ b.length) : ∀ i, (decI b p0 i).err = 0 → p0 ≤ (decI b p0 i).p ∧ (decI b p0 i).p ≤ b.length ∧ (decI b p0 i).last = lastT (decI b p0 i).ts i ∧ b.take (decI b p0 i).p.toNat = b.take p0.toNat ++ (List.range i).flatMap (entB (decI b p0 i).ts)
  | 0, _ => ⟨by simp [decI], h0.2, by simp [decI, lastT], by simp [decI]⟩
  | i + 1, h => by
    by_cases he : (decI b p0 i).err = 0
    case neg => rw [decI, if_pos he] at h; exact absurd h he
    obtain ⟨f1, f2, f3, f4⟩ := dec_facts hb h0 i he
    have fl := (decI_facts h0 i he).1
    by_cases ht : (textZ b (decI b p0 i).last (decI b p0 i).p (decide (i % 16 = 0))).err = 0
    case neg => rw [decI, if_neg (by simp [he]), if_pos ht] at h; exact absurd h ht
    obtain ⟨k, m, q1, q2, q3, q4, q5, q6, q7, q8, q9⟩ := textZ_bytes hb ht
    rw [decI_ok he ht]
    obtain ⟨D, hD⟩ : ∃ D, D = decI b p0 i := ⟨_, rfl⟩
    rw [← hD] at f1 f2 f3 f4 fl he ht q1 q3 q4 q5 q6 q7 q8 q9 ⊢
    obtain ⟨Z, hZ⟩ : ∃ Z, Z = textZ b D.last D.p (decide (i % 16 = 0)) := ⟨_, rfl⟩
    rw [← hZ] at ht q3 q4 q5 q7 q8 q9 ⊢
    refine ⟨by simp only; omega, q8, ?_, ?_⟩
    · simp only [lastT]
      rw [if_neg (by omega), Nat.add_sub_cancel, ← fl, nth_app_last]
    · have hk : sameAt (D.ts ++ [Z.s]) i = k := by
        rw [sameAt_eq]
        by_cases hm : i % 16 = 0
        · rw [if_pos hm, q2 (by simpa using hm)]
        · rw [if_neg hm]
          have hla : lastT (D.ts ++ [Z.s]) i = D.last := by
            rw [f3]; unfold lastT
            by_cases z : i = 0
            · rw [if_pos z, if_pos z]
            · rw [if_neg z, if_neg z, nth_app_l (by omega)]
          rw [hla, ← fl, nth_app_last]
          exact q3 (by simpa using hm)
      have hn : nth (D.ts ++ [Z.s]) i = Z.s := by rw [← fl, nth_app_last]
      have hent : entB (D.ts ++ [Z.s]) i = M.putL k ++ (M.putL m ++ Z.s.drop k) := by
        unfold entB
        rw [hk, hn, q5, Nat.add_sub_cancel_left]
      simp only
      rw [q9, f4, List.range_succ, List.flatMap_append, encT_snoc_eq i (by omega)]
      simp [hent]
theorem enc_dec {b : List Int} (hb : M.Bytes b) (h : decErr b = 0) : encBad (decTs b) = false ∧ encP (decTs b) = b := by
  obtain ⟨n, p0, e, hg⟩ : ∃ n p0 e, M.getR b 0 = (n, p0, e) := ⟨_, _, _, rfl⟩
  by_cases he : e = 0
  case neg => rw [decErr_e hg he] at h; exact absurd h he
  subst he
  have hd := decErr_of hg
  rw [h] at hd
  have ht := decTs_of hg h
  obtain ⟨g1, g2, g3, g4, g5, g6, g7⟩ := M.getR_ok hb hg
  split at hd
  · cases hd
  rename_i hbig
  split at hd
  · rename_i q; exact absurd hd.symm q
  rename_i he
  split at hd
  · cases hd
  rename_i hlt
  have he : (decI b p0 n.toNat).err = 0 := Decidable.byContradiction he
  obtain ⟨f1, f2, f3, f4⟩ := dec_facts hb ⟨by omega, g3⟩ n.toNat he
  obtain ⟨d1, d2, d3, d4, d5, d6⟩ := decI_facts ⟨by omega, g3⟩ n.toNat he
  rw [ht]
  refine ⟨?_, ?_⟩
  · unfold encBad
    simp only [Bool.or_eq_false_iff, decide_eq_false_iff_not, List.any_eq_false, decide_eq_true_eq]
    exact ⟨by omega, fun s hs => by have := d5 s hs; omega⟩
  · unfold encP encT
    rw [d1, g7, show Int.toNat 0 = 0 from rfl, List.drop_zero, ← f4]
    exact List.take_of_length_le (by omega)

end Go.Proofs.Ytjjldepikokogaa.B
set_option maxRecDepth 20000
set_option maxHeartbeats 1000000
namespace Go.Proofs.Ytjjldepikokogaa.B
open Go Go.Ab
theorem encP_bytes {ss : List (List Int)} (h : ∀ s ∈ ss, b8 s = true) : b8 (encP ss) = true := by
  refine b8_of ?_
  unfold encP encT
  refine M.Bytes.app (M.putL_bytes _ _ (Nat.lt_succ_self _)) fun x hx => ?_
  obtain ⟨i, hi, hx⟩ := List.mem_flatMap.1 hx
  have hi := List.mem_range.1 hi
  have hs : M.Bytes (nth ss i) := b8_bytes (h _ (nth_mem hi))
  exact (M.Bytes.app (M.putL_bytes _ _ (Nat.lt_succ_self _)) (M.Bytes.app (M.putL_bytes _ _ (Nat.lt_succ_self _)) (hs.drop _))) x hx
theorem decTs_short {b : List Int} (hb : M.Bytes b) (h : decErr b = 0) : shortT (decTs b) = true := by
  obtain ⟨h1, h2⟩ := not_bad (enc_dec hb h).1
  refine shortT_iff.2 fun s hs => ?_
  obtain ⟨j, hj, rfl⟩ := nth_of_mem hs
  have := h2 j hj; omega
theorem decV_of (ts : List (List Int)) : ofList (ofInts .u8) (demote (decV ts)) = some ts := by
  unfold decV
  split
  · rename_i h; rw [h]; rfl
  · show ofList (ofInts .u8) (.lst .frozen (cellsN [] ts) ts.length) = some ts
    exact ofList_lst (cellsN_of [] ts) (cellsN_len [] ts).symm
def b8T (ss : List (List Int)) : Bool := ss.all b8
theorem b8T_iff {ss : List (List Int)} : b8T ss = true ↔ ∀ s ∈ ss, b8 s = true := by simp [b8T]
/-- The texts that come out, as the caller holds them. -/
theorem dec_hold (ts : List (List Int)) : ∃ d, demote (decV ts) = d ∧ demote d = d ∧ ofList (ofInts .u8) d = some ts ∧ lenV Try.prog 22 d = some (.int .i64 ts.length) ∧ ntup d = some d := by
  have h := decV_of ts
  obtain ⟨vd, vn, -⟩ := tx h
  refine ⟨_, rfl, vd, h, vn, ?_⟩
  unfold decV; split <;> rfl
noncomputable def k_PrefixBack : Ab.Spec := con2 (ofList (ofInts .u8)) (ofInts .u8) fun ss b objs => match objs with | [] => bnd (ss.length * 24 + b.length) 281474976706000 (if shortT ss = true ∧ b8T ss = true ∧ b8 b = true ∧ b.length < 140737488352000 ∧ ss.length * 24 < 140737488355328 then some (.bool true, none) else none) | _ => none
noncomputable def T_PrefixBack : CallF := withF T_pDecode 5 k_PrefixBack
theorem T_PrefixBack_ok : CallOk Try.prog T_PrefixBack := con_of (A := annOf [] [] [] false []) fit T_pDecode_ok (fn := Try.f5) (by kernel_rfl) (by kernel_rfl) (by
  intro args objs r h0
  have c_alive : ∀ a o, T_pDecode 7 a o = k_alive a o := fun _ _ => rfl
  have c_pEncode : ∀ a o, T_pDecode 9 a o = k_pEncode a o := fun _ _ => rfl
  have c_rpEncode : ∀ a o, T_pDecode 10 a o = k_rpEncode a o := fun _ _ => rfl
  have c_pDecode : ∀ a o, T_pDecode 14 a o = k_pDecode a o := fun _ _ => rfl
  have c_Cat : ∀ a o, T_pDecode 20 a o = k_Cat a o := fun _ _ => rfl
  have c_Same10 : ∀ a o, T_pDecode 12 a o = k_Same10 a o := fun _ _ => rfl
  have c_Copy : ∀ a o, T_pDecode 21 a o = k_Copy a o := fun _ _ => rfl
  have c_SameR : ∀ a o, T_pDecode 22 a o = k_SameR a o := fun _ _ => rfl
  obtain ⟨v, w, ss, b, rfl, ha, hb, hR⟩ := con2_inv h0
  split at hR
  case h_2 => cases hR
  obtain ⟨hl, hR⟩ := bnd_inv hR
  split at hR
  case isFalse => cases hR
  rename_i hc
  obtain ⟨hall, h8s, h8b, hbl, hsl⟩ := hc
  cases hR
  obtain ⟨vd, vn, -⟩ := tx ha
  obtain ⟨wd, wn, -⟩ := bs hb
  have hB := b8_bytes h8b
  refine .go _ rfl rfl ?_
  by_cases hbad : encBad ss = true
  · simp -implicitDefEqProofs (disch := omega) [c_alive, k_alive, c_pEncode, k_pEncode, c_rpEncode, k_rpEncode, vd, ha, hall, hbad]
  have hbad : encBad ss = false := by simpa using hbad
  obtain ⟨n1, n2⟩ := not_bad hbad
  have hl2 := encT_len n1 ss.length n2
  have hl3 : (encP ss).length ≤ 10 + 220 * ss.length := hl2
  obtain ⟨d1, d2, d3⟩ := dec_enc n1 n2
  have hts3 := decTs_bad (b := encP ss ++ [0]) (by rw [d3]; decide)
  have p8 := encP_bytes (b8T_iff.1 h8s)
  have p80 : b8 (encP ss ++ [0]) = true := b8_of (M.Bytes.app (b8_bytes p8) (fun x hx => by simp at hx; omega))
  have e1 : ofInts .u8 (.lst .frozen (ints .u8 (encP ss)) (encP ss).length) = some (encP ss) := ofInts_lst rfl
  have e2 : ofInts .u8 (.lst .frozen (ints .u8 (encP ss ++ [0])) ((encP ss).length + 1)) = some (encP ss ++ [0]) := ofInts_lst (by simp)
  have e3 : ofInts .u8 (.lst .frozen [.int .u8 0] 1) = some [0] := rfl
  have e4 : ofInts .u8 (.lst .frozen (ints .u8 b) b.length) = some b := ofInts_lst rfl
  have hdv : decV [] = .nils := rfl
  obtain ⟨x, x1, x2, x3, x4, x5⟩ := dec_hold ss
  by_cases he : decErr b = 0
  · obtain ⟨q1, q2⟩ := enc_dec hB he
    have q3 := decTs_short hB he
    obtain ⟨y, y1, y2, y3, y4, y5⟩ := dec_hold (decTs b)
    obtain ⟨Y, hY⟩ : ∃ Y, Y = decTs b := ⟨_, rfl⟩
    rw [← hY] at q1 q2 q3 y1 y3 y4
    have yl : Y.length ≤ 4096 := (not_bad q1).1
    have f1 : ∀ O, ofIntsR .u8 O (.lst .frozen (ints .u8 b) b.length) = some b := fun O => ofIntsR_of e4
    have f2 : ∀ O, ofIntsR .u8 O w = some b := fun O => ofIntsR_of hb
    simp -implicitDefEqProofs (disch := omega) [c_alive, k_alive, c_pEncode, k_pEncode, c_pDecode, k_pDecode, c_Cat, k_Cat, c_Same10, k_Same10, c_Copy, k_Copy, c_SameR, k_SameR, vd, wd, ha, hb, hall, hbad, e1, e2, e3, e4, d1, d2, d3, hts3, hdv, p8, p80, x1, x2, x3, x4, x5, blit1, he, ← hY, y1, y2, y3, y4, y5, q1, q2, q3, h8b, f1, f2]
  · have hts := decTs_bad he
    have he' : (decErr b != 0) = true := by simpa using he
    simp -implicitDefEqProofs (disch := omega) [c_alive, k_alive, c_pEncode, k_pEncode, c_pDecode, k_pDecode, c_Cat, k_Cat, c_Same10, k_Same10, c_Copy, k_Copy, vd, wd, ha, hb, hall, hbad, e1, e2, e3, e4, d1, d2, d3, hts3, hdv, p8, p80, x1, x2, x3, x4, x5, blit1, he, he', hts, h8b])
theorem in_bytes {D M n : Nat} {v : V} (h : ShpV Try.prog D M n 25 v) : ∃ l, ofInts .u8 v = some l ∧ b8 l = true ∧ l.length ≤ 140737488351232 ∧ (M = 0 ∨ l.length ≤ M) := by
  have hg : Ab.isAgg Try.prog 25 = false := by kernel_rfl
  have h2 : Shp Try.prog D M n 25 v := by unfold ShpV at h; rwa [if_neg (by rw [hg]; simp)] at h
  obtain ⟨l, l1, l2, l3, l4⟩ := shp_ints u25 u5 h2
  have hb : Try.prog.bytesOf 5 = 1 := by kernel_rfl
  rw [hb] at l3
  exact ⟨l, l1, wf_u8 l2, by omega, l4⟩
theorem walk_PrefixBack {D M n : Nat} {vs : List V} {args : Array Value} {W : World} (hS : ShpAll Try.prog D M n [22, 25] vs) (hA : AR (top W) W vs args.toList) : Calls Try.prog 5 args W fun e W' => e = .returned (.bool true) ∧ Go.RowKit.Below W.heap.size W W' := by
  match vs, hS with
  | [v0, v1], ⟨s0, s1, _⟩ =>
    obtain ⟨ss, d0, b0, n0, -⟩ := in_texts s0
    obtain ⟨b, d1, b1, n1, -⟩ := in_bytes s1
    have hall : shortT ss = true := shortT_iff.2 fun s hs => (by have := (b0 s hs).2.1; omega)
    have h8 : b8T ss = true := b8T_iff.2 fun s hs => (b0 s hs).1
    refine whole fit T_PrefixBack_ok (fn := Try.f5) (by kernel_rfl) (by kernel_rfl) ?_ hA
    show k_PrefixBack [v0, v1] [] = _
    simp (disch := omega) [k_PrefixBack, d0, d1, b1, hall, h8]
    omega

end Go.Proofs.Ytjjldepikokogaa.B
set_option maxRecDepth 20000
set_option maxHeartbeats 1000000
namespace Go.Proofs.Ytjjldepikokogaa.B
open Go Go.Ab
/-! the order of texts, sorted lists -/
theorem cmpZ_vals : ∀ a b : List Int, cmpZ a b = -1 ∨ cmpZ a b = 0 ∨ cmpZ a b = 1
  | [], [] => .inr (.inl rfl)
  | [], _ :: _ => .inl rfl
  | _ :: _, [] => .inr (.inr rfl)
  | a :: p, b :: q => by
    rw [cmpZ_cons]
    split
    · exact .inl rfl
    · split
      · exact .inr (.inr rfl)
      · exact cmpZ_vals p q
theorem cmpZ_zero : ∀ {a b : List Int}, cmpZ a b = 0 → a = b
  | [], [], _ => rfl
  | [], _ :: _, h => by simp [cmpZ] at h
  | _ :: _, [], h => by simp [cmpZ] at h
  | a :: p, b :: q, h => by
    rw [cmpZ_cons] at h
    split at h
    · cases h
    · split at h
      · cases h
      · rw [cmpZ_zero h, show a = b by omega]
theorem cmpZ_swap : ∀ a b : List Int, cmpZ b a = - cmpZ a b
  | [], [] => rfl
  | [], _ :: _ => rfl
  | _ :: _, [] => rfl
  | a :: p, b :: q => by
    rw [cmpZ_cons, cmpZ_cons]
    by_cases h1 : a < b
    · rw [if_pos h1, if_neg (by omega), if_pos h1]; rfl
    · by_cases h2 : b < a
      · simp [h1, h2]
      · rw [if_neg h1, if_neg h2, if_neg h2, if_neg h1]; exact cmpZ_swap p q
theorem cmpZ_trans : ∀ {a b c : List Int}, cmpZ a b < 0 → cmpZ b c < 0 → cmpZ a c < 0
  | [], [], _, h, _ => by simp [cmpZ] at h
  | [], _ :: _, [], _, h => by simp [cmpZ] at h
  | [], _ :: _, _ :: _, _, _ => by simp [cmpZ]
  | _ :: _, [], _, h, _ => by simp [cmpZ] at h
  | _ :: _, _ :: _, [], _, h => by simp [cmpZ] at h
  | a :: p, b :: q, c :: r, h, k => by
    rw [cmpZ_cons] at h k ⊢
    split at h
    · split at k
      · rw [if_pos (by omega)]; decide
      · split at k
        · cases k
        · rw [if_pos (by omega)]; decide
    · split at h
      · cases h
      · split at k
        · rw [if_pos (by omega)]; decide
        · split at k
          · cases k
          · rw [if_neg (by omega), if_neg (by omega)]; exact cmpZ_trans h k
theorem pre_true {x : Option Rs} : pre True x = x := pre_pos trivial
def Srt (ts : List (List Int)) : Prop := ts.Pairwise fun a b => cmpZ a b < 0
theorem Srt.nth {ts : List (List Int)} (h : Srt ts) {i j : Nat} (hi : i < j) (hj : j < ts.length) : cmpZ (Ab.nth ts i) (Ab.nth ts j) < 0 := by
  rw [nth_lt hj, nth_lt (by omega : i < ts.length)]
  exact List.pairwise_iff_getElem.1 h i j _ _ hi
/-- How many stand ahead. -/
def aheadN (ts : List (List Int)) (s : List Int) : Nat := (ts.takeWhile fun t => decide (cmpZ t s < 0)).length
theorem ahead_stop {s : List Int} : ∀ {ts : List (List Int)} {i : Nat}, i ≤ ts.length → (∀ j, j < i → cmpZ (nth ts j) s < 0) → (i = ts.length ∨ ¬ cmpZ (nth ts i) s < 0) → aheadN ts s = i
  | [], i, h, _, _ => by simp at h; subst h; rfl
  | t :: ts, 0, _, _, h => by
    have h : ¬ cmpZ t s < 0 := by
      rcases h with h | h
      · simp at h
      · exact h
    simp [aheadN, h]
  | t :: ts, i + 1, h1, h2, h3 => by
    have h0 : cmpZ t s < 0 := h2 0 (by omega)
    have ih := ahead_stop (s := s) (ts := ts) (i := i) (by simpa using h1) (fun j hj => by have := h2 (j + 1) (by omega); rwa [nth_cons_succ] at this) (by
      rcases h3 with h | h
      · left; simpa using h
      · right; rwa [nth_cons_succ] at h)
    unfold aheadN at ih ⊢
    simp [h0, ih]
theorem ahead_le (ts : List (List Int)) (s : List Int) : aheadN ts s ≤ ts.length := by
  unfold aheadN; exact (List.takeWhile_sublist _).length_le
theorem ahead_less {s : List Int} : ∀ {ts : List (List Int)} {i : Nat}, i < aheadN ts s → cmpZ (nth ts i) s < 0
  | [], i, h => by simp [aheadN] at h
  | t :: ts, i, h => by
    by_cases h0 : cmpZ t s < 0
    · have e : aheadN (t :: ts) s = aheadN ts s + 1 := by simp [aheadN, h0]
      cases i with
      | zero => exact h0
      | succ i => rw [nth_cons_succ]; exact ahead_less (by omega)
    · have e : aheadN (t :: ts) s = 0 := by simp [aheadN, h0]
      omega
theorem ahead_not {s : List Int} : ∀ {ts : List (List Int)}, aheadN ts s < ts.length → ¬ cmpZ (nth ts (aheadN ts s)) s < 0
  | [], h => by simp at h
  | t :: ts, h => by
    by_cases h0 : cmpZ t s < 0
    · have e : aheadN (t :: ts) s = aheadN ts s + 1 := by simp [aheadN, h0]
      rw [e] at h ⊢
      rw [nth_cons_succ]
      exact ahead_not (by simpa using h)
    · have e : aheadN (t :: ts) s = 0 := by simp [aheadN, h0]
      rw [e]; exact h0
theorem ahead_srt {ts : List (List Int)} {s : List Int} (h : Srt ts) {i : Nat} (hi : i < ts.length) : (cmpZ (nth ts i) s < 0) ↔ i < aheadN ts s := by
  refine ⟨fun hc => ?_, ahead_less⟩
  rcases Nat.lt_or_ge i (aheadN ts s) with q | q
  · exact q
  · exfalso
    have hn := ahead_not (ts := ts) (s := s) (by omega)
    rcases Nat.eq_or_lt_of_le q with e | e
    · rw [e] at hn; exact hn hc
    · exact hn (cmpZ_trans (h.nth e hi) hc)
def ins (ts : List (List Int)) (s : List Int) : List (List Int) := if aheadN ts s < ts.length ∧ nth ts (aheadN ts s) = s then ts else ts.take (aheadN ts s) ++ s :: ts.drop (aheadN ts s)
theorem ins_srt {ts : List (List Int)} {s : List Int} (h : Srt ts) : Srt (ins ts s) := by
  unfold ins
  split
  · exact h
  rename_i hn
  have hl := ahead_le ts s
  obtain ⟨k, hk⟩ : ∃ k, k = aheadN ts s := ⟨_, rfl⟩
  rw [← hk] at hn hl ⊢
  have hd : ∀ b ∈ ts.drop k, cmpZ s b < 0 := fun b hb => by
    obtain ⟨j, hj, rfl⟩ := nth_of_mem hb
    rw [nth_drop]
    rw [List.length_drop] at hj
    have h1 : ¬ cmpZ (nth ts k) s < 0 := by rw [hk]; exact ahead_not (by omega)
    have h2 : cmpZ s (nth ts k) < 0 := by
      have := cmpZ_swap (nth ts k) s
      rcases cmpZ_vals (nth ts k) s with q | q | q
      · omega
      · exact absurd ⟨by omega, cmpZ_zero q⟩ hn
      · omega
    rcases Nat.eq_zero_or_pos j with e | e
    · subst e; exact h2
    · exact cmpZ_trans h2 (h.nth (by omega) (by omega))
  have ht : ∀ a ∈ ts.take k, cmpZ a s < 0 := fun a ha => by
    obtain ⟨j, hj, rfl⟩ := nth_of_mem ha
    rw [List.length_take] at hj
    rw [nth_take (by omega)]
    exact ahead_less (by omega)
  have hp : (ts.take k ++ ts.drop k).Pairwise fun a b => cmpZ a b < 0 := by rw [List.take_append_drop]; exact h
  obtain ⟨p1, p2, p3⟩ := List.pairwise_append.1 hp
  refine List.pairwise_append.2 ⟨p1, List.pairwise_cons.2 ⟨hd, p2⟩, fun a ha b hb => ?_⟩
  rcases List.mem_cons.1 hb with q | q
  · rw [q]; exact ht a ha
  · exact p3 a ha b q
theorem ins_mem {ts : List (List Int)} {s t : List Int} (h : t ∈ ins ts s) : t ∈ ts ∨ t = s := by
  unfold ins at h
  split at h
  · exact .inl h
  · rcases List.mem_append.1 h with q | q
    · exact .inl (List.mem_of_mem_take q)
    · rcases List.mem_cons.1 q with q | q
      · exact .inr q
      · exact .inl (List.mem_of_mem_drop q)
theorem ins_len (ts : List (List Int)) (s : List Int) : (ins ts s).length ≤ ts.length + 1 := by
  unfold ins
  split
  · omega
  · rw [List.length_append, List.length_cons, List.length_take, List.length_drop]; omega
/-- The texts, sorted, each once. -/
def idx (ss : List (List Int)) : Nat → List (List Int)
  | 0 => []
  | i + 1 => ins (idx ss i) (nth ss i)
theorem idx_facts (ss : List (List Int)) : ∀ i, i ≤ ss.length → Srt (idx ss i) ∧ (idx ss i).length ≤ i ∧ ∀ t ∈ idx ss i, t ∈ ss
  | 0, _ => ⟨List.Pairwise.nil, by simp [idx], by simp [idx]⟩
  | i + 1, h => by
    obtain ⟨h1, h2, h3⟩ := idx_facts ss i (by omega)
    refine ⟨ins_srt h1, ?_, fun t ht => ?_⟩
    · have := ins_len (idx ss i) (nth ss i); simp only [idx]; omega
    · rcases ins_mem ht with q | q
      · exact h3 t q
      · rw [q]; exact nth_mem (by omega)

end Go.Proofs.Ytjjldepikokogaa.B
set_option maxRecDepth 20000
set_option maxHeartbeats 1000000
namespace Go.Proofs.Ytjjldepikokogaa.B
open Go Go.Ab
/-! the index of stoaref10 -/
theorem txx (ts : List (List Int)) : demote (.lst .frozen (txV ts) ts.length) = .lst .frozen (txV ts) ts.length ∧ lenV Try.prog 22 (.lst .frozen (txV ts) ts.length) = some (.int .i64 ts.length) ∧ (∀ k i, 0 ≤ i → i < (ts.length : Int) → indexV Try.prog 22 (.lst .frozen (txV ts) ts.length) (.int k i) = some (.fptr (txV ts) i.toNat)) ∧ ∀ i, i < ts.length → (txV ts)[i]? = some (.lst .frozen (ints .u8 (nth ts i)) (nth ts i).length) ∧ ∀ hh : i < (txV ts).length, (txV ts)[i]'hh = .lst .frozen (ints .u8 (nth ts i)) (nth ts i).length := by
  have hv : Sl (.lst .frozen (txV ts) ts.length) (txV ts) ts.length := .inl rfl
  refine ⟨rfl, hv.size u22, fun k i h0 h1 => ?_, fun i hi => ?_⟩
  · have := hv.idx u22 z25 k i h0 h1
    rwa [Nat.mul_one] at this
  · have h : (txV ts)[i]? = some (.lst .frozen (ints .u8 (nth ts i)) (nth ts i).length) := by
      rw [txV, List.getElem?_map, List.getElem?_eq_getElem hi, nth_lt hi]; rfl
    exact ⟨h, fun hh => by rw [List.getElem?_eq_getElem hh] at h; exact Option.some.inj h⟩
noncomputable def k_place : Ab.Spec := con2 (ofList (ofInts .u8)) (ofInts .u8) fun ts s _ => bnd ts.length 1000000 (pre (Srt ts ∧ shortT ts = true) (some (.int .i64 (aheadN ts s), none)))
noncomputable def T_place : CallF := withF T_PrefixBack 39 k_place
theorem T_place_ok : CallOk Try.prog T_place := con_of (A := annOf [] [] [] false []) fit T_PrefixBack_ok (fn := Try.f39) (by kernel_rfl) (by kernel_rfl) (by
  intro args objs r h0
  have c_Order : ∀ a o, T_PrefixBack 24 a o = k_Order a o := fun _ _ => rfl
  obtain ⟨v, w, ts, s, rfl, ha, hb, hR⟩ := con2_inv h0
  obtain ⟨hl, hR⟩ := bnd_inv hR
  obtain ⟨⟨hS, hall⟩, hR⟩ := pre_inv hR
  cases hR
  have hall := shortT_iff.1 hall
  obtain ⟨vd, vn, cs, vi, vc⟩ := tx ha
  obtain ⟨wd, wn, -⟩ := bs hb
  refine .go _ rfl rfl ?_
  simp -implicitDefEqProofs [vn]
  obtain ⟨I, hI⟩ : ∃ I : Nat → St → Prop, I = (fun (n : Nat) (s' : St) => ∃ lo hi : Nat, n = hi - lo ∧ lo ≤ hi ∧ hi ≤ ts.length ∧ s'.env 0 = v ∧ s'.env 1 = w ∧ s'.env 5 = .int .i64 lo ∧ s'.env 6 = .int .i64 hi ∧ s'.toks = [] ∧ s'.objs = objs ∧ s'.low = objs.length ∧ (∀ j, j < lo → cmpZ (nth ts j) s < 0) ∧ ∀ j, hi ≤ j → j < ts.length → ¬ cmpZ (nth ts j) s < 0) := ⟨_, rfl⟩
  refine .dn ts.length I (by rw [hI]; exact ⟨0, ts.length, rfl, by omega, by omega, by simp, by simp, by simp, by simp, by simp, by simp, by simp, by omega, by omega⟩) ?_
  intro n s' hs
  rw [hI] at hs
  obtain ⟨lo, hi, hn, h1, h2, g0, g1, g5, g6, ht, ho, hlo, hL, hH⟩ := hs
  rcases Nat.lt_or_ge lo hi with h | h
  · obtain ⟨mid, hm⟩ : ∃ mid, mid = (lo + hi) / 2 := ⟨_, rfl⟩
    have q1 : ((lo : Int) + hi).tdiv 2 = (mid : Int) := by rw [Int.tdiv_eq_ediv_of_nonneg (by omega)]; omega
    have q2 : ((lo : Int) + hi) / 2 = (mid : Int) := by omega
    have hmid : mid < ts.length := by omega
    have hml : lo ≤ mid ∧ mid < hi := by omega
    obtain ⟨c, c1, c1', c2⟩ := vc mid hmid
    obtain ⟨cd, -⟩ := bs c2
    have e1 := vi .i64 mid (by omega) (by omega)
    rw [Int.toNat_natCast] at e1
    have r1 : ∀ O, ofIntsR .u8 O c = some (nth ts mid) := fun O => ofIntsR_of c2
    have r2 : ∀ O, ofIntsR .u8 O w = some s := fun O => ofIntsR_of hb
    have hL2 := hall _ (nth_mem hmid)
    by_cases hc : cmpZ (nth ts mid) s < 0
    · simp -implicitDefEqProofs (disch := omega) [g0, g1, g5, g6, ht, ho, hlo, h, q1, q2, e1, c1, c1', cd, wd, c_Order, k_Order, r1, r2, hL2, hc, wrap_small]
      refine ⟨hi - (mid + 1), by omega, ?_⟩
      rw [hI]
      refine ⟨mid + 1, hi, rfl, by omega, h2, by simp [g0], by simp [g1], by simp, by simp [g6], by simp, by simp, by simp, fun j hj => ?_, hH⟩
      rcases Nat.eq_or_lt_of_le (Nat.le_of_lt_succ hj) with e | e
      · rw [e]; exact hc
      · exact cmpZ_trans (hS.nth e hmid) hc
    · simp -implicitDefEqProofs (disch := omega) [g0, g1, g5, g6, ht, ho, hlo, h, q1, q2, e1, c1, c1', cd, wd, c_Order, k_Order, r1, r2, hL2, hc, wrap_small]
      refine ⟨mid - lo, by omega, ?_⟩
      rw [hI]
      refine ⟨lo, mid, rfl, by omega, by omega, by simp [g0], by simp [g1], by simp [g5], by simp, by simp, by simp, by simp, hL, fun j hj hj2 hq => ?_⟩
      rcases Nat.eq_or_lt_of_le hj with e | e
      · rw [← e] at hq; exact hc hq
      · exact hc (cmpZ_trans (hS.nth e hj2) hq)
  · obtain rfl : lo = hi := by omega
    have hst := ahead_stop (s := s) (ts := ts) (i := lo) h2 hL (by
      rcases Nat.eq_or_lt_of_le h2 with e | e
      · exact .inl e
      · exact .inr (hH lo (by omega) e))
    simp -implicitDefEqProofs (disch := omega) [g0, g1, g5, g6, ht, ho, hlo, hst])
theorem txc (s : List Int) : isDef (.lst .frozen (ints .u8 s) s.length) = true ∧ cellsOf (.lst .frozen (ints .u8 s) s.length) = [.lst .frozen (ints .u8 s) s.length] := ⟨rfl, rfl⟩
noncomputable def k_with : Ab.Spec := con2 some (ofInts .u8) fun v s _ => match ofList (ofInts .u8) v with
  | some ts => bnd ts.length 1000000 (pre (v = .lst .frozen (txV ts) ts.length ∧ Srt ts ∧ shortT ts = true ∧ s.length < 140737488355000) (some (if aheadN ts s < ts.length ∧ nth ts (aheadN ts s) = s then .lst .frozen (txV ts) ts.length else .lst (.fresh 1 false) (txV (ins ts s)) (ins ts s).length, none)))
  | none => none
noncomputable def T_with : CallF := withF T_place 38 k_with
theorem T_with_ok : CallOk Try.prog T_with := con_of (A := annOf [25] [] [] false []) fit T_place_ok (fn := Try.f38) (by kernel_rfl) (by kernel_rfl) (by
  intro args objs r h0
  have c_place : ∀ a o, T_place 39 a o = k_place a o := fun _ _ => rfl
  have c_SameR : ∀ a o, T_place 22 a o = k_SameR a o := fun _ _ => rfl
  have c_Copy : ∀ a o, T_place 21 a o = k_Copy a o := fun _ _ => rfl
  obtain ⟨_, w, v, s, rfl, hv, hb, hR⟩ := con2_inv h0
  cases hv
  split at hR
  case h_2 => cases hR
  rename_i ts ha
  obtain ⟨hl, hR⟩ := bnd_inv hR
  obtain ⟨⟨rfl, hS, hall, hsl⟩, hR'⟩ := pre_inv hR
  cases hR'
  obtain ⟨vd, vn, vi, vc⟩ := txx ts
  obtain ⟨wd, wn, -⟩ := bs hb
  have hk := ahead_le ts s
  have e1 := ofInts_lst (k := .u8) (n := s.length) (l := s) rfl
  have r2 : ∀ O, ofIntsR .u8 O w = some s := fun O => ofIntsR_of hb
  have kp : ∀ O, k_place [.lst .frozen (txV ts) ts.length, w] O = some (.int .i64 (aheadN ts s), none) := fun O => by
    simp (disch := omega) [k_place, ha, hb, pre_true, hS, hall]
  obtain ⟨k, hkk⟩ : ∃ k, k = aheadN ts s := ⟨_, rfl⟩
  rw [← hkk] at kp hk ⊢
  obtain ⟨v, hv⟩ : ∃ v, v = V.lst .frozen (txV ts) ts.length := ⟨_, rfl⟩
  rw [← hv] at vd vn vi kp ⊢
  refine .go _ rfl rfl ?_
  by_cases hf : k < ts.length ∧ nth ts k = s
  · obtain ⟨f1, f2⟩ := hf
    obtain ⟨c1, c1'⟩ := vc k f1
    have i1 := vi .i64 k (by omega) (by omega)
    rw [Int.toNat_natCast] at i1
    rw [f2] at c1 c1'
    have r1 : ∀ O, ofIntsR .u8 O (.lst .frozen (ints .u8 s) s.length) = some s := fun O => ofIntsR_of e1
    simp -implicitDefEqProofs (disch := omega) [vd, vn, wd, c_place, kp, i1, c1, c1', c_SameR, k_SameR, r1, r2, f1, f2]
    have hr := txV_refs ts objs.length
    rw [hv]
    simp [hr]
  rw [if_neg hf]
  have hins : ins ts s = ts.take k ++ s :: ts.drop k := by unfold ins; rw [← hkk, if_neg hf]
  have e0 := llit0
  have ls := llit1 (txc s).1 (txc s).2
  refine .seq (.stop (M := fun e s' => e = .norm ∧ s'.env 0 = v ∧ s'.env 1 = w ∧ s'.toks = [] ∧ s'.objs = objs ∧ s'.low = objs.length) (by simp [At]) ?_)
  rintro e s' ⟨rfl, g0, g1, ht, ho, hlo⟩
  show To _ _ _ _ _ _ _ _
  refine .seq (.stop (M := fun e s' => e = .norm ∧ s'.env 0 = v ∧ s'.env 1 = w ∧ s'.env 5 = .int .i64 k ∧ s'.toks = [] ∧ s'.objs = objs ∧ s'.low = objs.length) (by simp -implicitDefEqProofs [g0, g1, ht, ho, hlo, vd, wd, c_place, kp, At]) ?_)
  rintro e s' ⟨rfl, g0, g1, g5, ht, ho, hlo⟩
  show To _ _ _ _ _ _ _ _
  refine .seq (.stop (M := fun e s' => e = .norm ∧ s'.env 0 = v ∧ s'.env 1 = w ∧ s'.env 5 = .int .i64 k ∧ s'.toks = [] ∧ s'.objs = objs ∧ s'.low = objs.length) ?_ ?_)
  · by_cases f1 : k < ts.length
    · obtain ⟨c1, c1'⟩ := vc k f1
      have i1 := vi .i64 k (by omega) (by omega)
      rw [Int.toNat_natCast] at i1
      have f2 : ¬ nth ts k = s := fun q => hf ⟨f1, q⟩
      have hL := shortT_iff.1 hall _ (nth_mem f1)
      have r1 : ∀ O, ofIntsR .u8 O (.lst .frozen (ints .u8 (nth ts k)) (nth ts k).length) = some (nth ts k) := fun O => ofIntsR_of (ofInts_lst rfl)
      simp -implicitDefEqProofs (disch := omega) [g0, g1, g5, ht, ho, hlo, vd, vn, wd, i1, c1, c1', c_SameR, k_SameR, r1, r2, f1, f2]
      exact ⟨rfl, by simp [g0], by simp [g1], by simp [g5], rfl, rfl, rfl⟩
    · simp -implicitDefEqProofs (disch := omega) [g0, g1, g5, ht, ho, hlo, vd, vn, wd, f1]
      exact ⟨rfl, by simp [g0], by simp [g1], by simp [g5], rfl, rfl, rfl⟩
  rintro e s' ⟨rfl, g0, g1, g5, ht, ho, hlo⟩
  simp -implicitDefEqProofs (disch := omega) [g0, g1, g5, ht, ho, hlo, e0]
  obtain ⟨I, hI⟩ : ∃ I : Nat → St → Prop, I = (fun (i : Nat) (s' : St) => s'.env 0 = v ∧ s'.env 1 = w ∧ s'.env 5 = .int .i64 k ∧ s'.env 6 = .lst (.tok 0 1) (txV (ts.take i)) i ∧ s'.env 7 = .int .i64 i ∧ s'.toks = [i] ∧ s'.objs = objs ∧ s'.low = objs.length) := ⟨_, rfl⟩
  refine .up k I (by rw [hI]; exact ⟨by simp [g0], by simp [g1], by simp [g5], by simp [txV, ht], by simp, by simp [ht], by simp [ho], by simp [hlo]⟩) ?_
  intro i s' hi hs
  rw [hI] at hs
  obtain ⟨g0, g1, g5, g6, g7, ht, ho, hlo⟩ := hs
  rcases Nat.lt_or_ge i k with h | h
  · have hi2 : i < ts.length := by omega
    obtain ⟨c1, c1'⟩ := vc i hi2
    have i1 := vi .i64 i (by omega) (by omega)
    rw [Int.toNat_natCast] at i1
    have l1 := llit1 (txc (nth ts i)).1 (txc (nth ts i)).2
    have es := txV_snoc (ts.take i) (nth ts i)
    rw [← take_nth hi2] at es
    have hm : (txV (ts.take i)).length = i := by rw [txV_len, List.length_take]; omega
    simp -implicitDefEqProofs (disch := omega) [g0, g1, g5, g6, g7, ht, ho, hlo, i1, c1, c1', h, l1, es, hm, Nat.mod_one, wrap_small]
    rw [hI]
    exact ⟨by simp [g0], by simp [g1], by simp [g5], by simp, by simp, by simp, by simp, by simp⟩
  obtain rfl : i = k := by omega
  have es := txV_snoc (ts.take i) s
  have hm : (txV (ts.take i)).length = i := by rw [txV_len, List.length_take]; omega
  simp -implicitDefEqProofs (disch := omega) [g0, g1, g5, g6, g7, ht, ho, hlo, wd, hb, c_Copy, k_Copy, ls, es, hm, Nat.mod_one]
  obtain ⟨X, hX⟩ : ∃ X : Nat → List (List Int), X = fun j => (ts.take i ++ [s]) ++ (ts.drop i).take j := ⟨_, rfl⟩
  have hXl : ∀ j, j ≤ ts.length - i → (X j).length = i + 1 + j := fun j hj => by rw [hX]; simp; omega
  have hXn : X (ts.length - i) = ins ts s := by rw [hX, hins]; simp only; rw [show (ts.drop i).take (ts.length - i) = ts.drop i from List.take_of_length_le (by rw [List.length_drop]; omega)]; simp
  obtain ⟨J, hJ⟩ : ∃ J : Nat → St → Prop, J = (fun (j : Nat) (s' : St) => s'.env 0 = v ∧ s'.env 6 = .lst (.tok 0 1) (txV (X j)) (i + 1 + j) ∧ s'.env 8 = .int .i64 ((i + j : Nat) : Int) ∧ s'.toks = [i + 1 + j] ∧ s'.objs = objs ∧ s'.low = objs.length) := ⟨_, rfl⟩
  refine .up (ts.length - i) J (by rw [hJ]; exact ⟨by simp [g0], by simp [hX], by simp, by simp, by simp, by simp⟩) ?_
  intro j s' hj hs
  rw [hJ] at hs
  obtain ⟨g0, g6, g8, ht, ho, hlo⟩ := hs
  rw [Int.natCast_add] at g8
  rcases Nat.lt_or_ge j (ts.length - i) with h2 | h2
  · have hi2 : i + j < ts.length := by omega
    obtain ⟨c1, c1'⟩ := vc (i + j) hi2
    have i1 := vi .i64 ((i : Int) + j) (by omega) (by omega)
    rw [show ((i : Int) + j).toNat = i + j by omega] at i1
    have l1 := llit1 (txc (nth ts (i + j))).1 (txc (nth ts (i + j))).2
    have es := txV_snoc (X j) (nth ts (i + j))
    have hxs : X j ++ [nth ts (i + j)] = X (j + 1) := by
      rw [hX]; simp only
      rw [take_nth (l := ts.drop i) (i := j) (by simp; omega), nth_drop]; simp
    rw [hxs] at es
    have hm : (txV (X j)).length = i + 1 + j := by rw [txV_len]; exact hXl j hj
    have h2' : (i : Int) + j < ts.length := by omega
    simp -implicitDefEqProofs (disch := omega) [g0, g6, g8, ht, ho, hlo, vn, h2', i1, c1, c1', hi2, l1, es, hm, Nat.mod_one, wrap_small]
    rw [hJ]
    exact ⟨by omega, by simp [g0], by simp [Nat.add_assoc], by simp; omega, by simp [Nat.add_assoc], by simp, by simp⟩
  obtain rfl : j = ts.length - i := by omega
  have hr := txV_refs (ins ts s) objs.length
  have h2' : ¬ (i : Int) + ((ts.length - i : Nat) : Int) < ts.length := by omega
  have hlen := hXl _ (Nat.le_refl _)
  rw [hXn] at hlen g6
  rw [← hlen] at g6 ht
  simp -implicitDefEqProofs (disch := omega) [g0, g6, g8, ht, ho, hlo, vn, h2', hr, txV_len])

end Go.Proofs.Ytjjldepikokogaa.B
set_option maxRecDepth 20000
set_option maxHeartbeats 1000000
namespace Go.Proofs.Ytjjldepikokogaa.B
open Go Go.Ab
theorem con2_eq {α β : Type} {d1 : V → Option α} {d2 : V → Option β} {F : α → β → List AO → Option Rs} {v w : V} {a : α} {b : β} {objs : List AO} (h1 : d1 v = some a) (h2 : d2 w = some b) : con2 d1 d2 F [v, w] objs = F a b objs := by rw [con2_app, h1, h2]; rfl
theorem ilit1 (a : Int) : listV Try.prog 46 1 [(0, .int .i64 a)] = some ([.int .i64 a], 1) := by simp [listV, fillV, zeros, setCells]
theorem ilit0 : listV Try.prog 46 0 [] = some ([], 1) := by simp [listV, fillV, zeros]
def codesL (ts ss : List (List Int)) (n : Nat) : List Int := (List.range n).map fun i => (aheadN ts (nth ss i) : Int)
theorem codesL_snoc (ts ss : List (List Int)) (n : Nat) : ints .i64 (codesL ts ss n) ++ [.int .i64 (aheadN ts (nth ss n))] = ints .i64 (codesL ts ss (n + 1)) := by simp [codesL, List.range_succ, ints]
def idxX (ss : List (List Int)) : List (List Int) := idx ss ss.length
noncomputable def k_Index10 : Ab.Spec := con1 (ofList (ofInts .u8)) fun ss _ => bnd ss.length 140737488355328 (if shortT ss = true then some (if encBad ss = true then .tup [.nils, .nils, .int .i64 4] else .tup [.lst .frozen (txV (idxX ss)) (idxX ss).length, .lst (.fresh 1 false) (ints .i64 (codesL (idxX ss) ss ss.length)) ss.length, .int .i64 0], none) else none)
noncomputable def T_Index10 : CallF := withF T_with 23 k_Index10
theorem T_Index10_ok : CallOk Try.prog T_Index10 := con_of (A := annOf [31] [] [] false []) fit T_with_ok (fn := Try.f23) (by kernel_rfl) (by kernel_rfl) (by
  intro args objs r h0
  have c_with : ∀ a o, T_with 38 a o = k_with a o := fun _ _ => rfl
  have c_place : ∀ a o, T_with 39 a o = k_place a o := fun _ _ => rfl
  obtain ⟨v, ss, rfl, ha, hR⟩ := con1_inv h0
  obtain ⟨hl, hR⟩ := bnd_inv hR
  split at hR
  case isFalse => cases hR
  rename_i hall
  cases hR
  have hall' := shortT_iff.1 hall
  obtain ⟨vd, vn, cs, vi, vc⟩ := tx ha
  refine .go _ rfl rfl ?_
  by_cases hbig : 4096 < ss.length
  · have hb : encBad ss = true := by simp [encBad, hbig]
    have hb' : (4096 : Int) < ss.length := by omega
    simp -implicitDefEqProofs (disch := omega) [vn, hb, hb', hbig]
  have e0 := llit0
  have hshort : ∀ i, i ≤ ss.length → shortT (idx ss i) = true := fun i hi => shortT_iff.2 fun t ht => hall' t ((idx_facts ss i hi).2.2 t ht)
  simp -implicitDefEqProofs (disch := omega) [vn, hbig, e0]
  obtain ⟨I, hI⟩ : ∃ I : Nat → St → Prop, I = (fun (i : Nat) (s : St) => (∀ j, j < i → (nth ss j).length ≤ 200) ∧ s.env 0 = v ∧ (∃ K, (K = LK.lit ∨ K = LK.frozen) ∧ s.env 5 = .lst K (txV (idx ss i)) (idx ss i).length) ∧ s.env 6 = .int .i64 i ∧ s.toks = [] ∧ s.objs = objs ∧ s.low = objs.length) := ⟨_, rfl⟩
  refine .up ss.length I (by rw [hI]; exact ⟨by omega, by simp, ⟨.lit, .inl rfl, by simp [txV, idx]⟩, by simp, by simp, by simp, by simp⟩) ?_
  intro i s hi hs
  rw [hI] at hs
  obtain ⟨h200, g0, ⟨K, hK, g5⟩, g6, ht, ho, hlo⟩ := hs
  rcases Nat.lt_or_ge i ss.length with h | h
  · obtain ⟨c, c1, c1', c2⟩ := vc i h
    obtain ⟨cd, cn, -⟩ := bs c2
    have e1 := vi .i64 i (by omega) (by omega)
    rw [Int.toNat_natCast] at e1
    by_cases hlong : 200 < (nth ss i).length
    · have hb := bad_at h hlong
      simp -implicitDefEqProofs (disch := omega) [g0, g5, g6, ht, ho, hlo, vn, e1, c1, c1', cd, cn, h, hb, hlong]
    · have h200' : ∀ j, j < i + 1 → (nth ss j).length ≤ 200 := fun j hj => by
        rcases Nat.lt_or_ge j i with q | q
        · exact h200 j q
        · obtain rfl : j = i := by omega
          omega
      obtain ⟨i1, i2, i3⟩ := idx_facts ss i hi
      have e2 := txV_of (ss := idx ss i) rfl
      have hs2 := hshort i hi
      have hL := hall' _ (nth_mem h)
      have kw : ∀ O, k_with [.lst .frozen (txV (idx ss i)) (idx ss i).length, c] O = some (if aheadN (idx ss i) (nth ss i) < (idx ss i).length ∧ nth (idx ss i) (aheadN (idx ss i) (nth ss i)) = nth ss i then .lst .frozen (txV (idx ss i)) (idx ss i).length else .lst (.fresh 1 false) (txV (ins (idx ss i) (nth ss i))) (ins (idx ss i) (nth ss i)).length, none) := fun O => by
        unfold k_with
        rw [con2_eq rfl c2, e2]
        simp only
        rw [bnd_pos (by omega), pre_pos ⟨trivial, i1, hs2, hL⟩]
      have fin : ∀ s' : St, s'.env 0 = v → s'.env 5 = .lst .frozen (txV (idx ss (i + 1))) (idx ss (i + 1)).length → s'.env 6 = .int .i64 ((i : Int) + 1) → s'.toks = [] → s'.objs = objs → s'.low = objs.length → I (i + 1) s' := fun s' z1 z2 z3 z4 z5 z6 => by
        rw [hI]; exact ⟨h200', z1, ⟨.frozen, .inr rfl, z2⟩, z3, z4, z5, z6⟩
      have hx : idx ss (i + 1) = ins (idx ss i) (nth ss i) := rfl
      have hm := txV_len (idx ss i)
      by_cases hf : aheadN (idx ss i) (nth ss i) < (idx ss i).length ∧ nth (idx ss i) (aheadN (idx ss i) (nth ss i)) = nth ss i
      · rw [if_pos hf] at kw
        have hx2 : idx ss (i + 1) = idx ss i := by rw [hx]; unfold ins; rw [if_pos hf]
        simp -implicitDefEqProofs (disch := omega) [g0, g5, g6, ht, ho, hlo, vn, e1, c1, c1', cd, cn, h, hlong, c_with, kw, wrap_small]
        exact fin _ (by simp [g0]) (by simp [hx2]) (by simp) (by simp) (by simp) (by simp)
      · rw [if_neg hf] at kw
        simp -implicitDefEqProofs (disch := omega) [g0, g5, g6, ht, ho, hlo, vn, e1, c1, c1', cd, cn, h, hlong, c_with, kw, wrap_small]
        exact fin _ (by simp [g0]) (by simp [hx]) (by simp) (by simp) (by simp) (by simp)
  obtain rfl : i = ss.length := by omega
  have hnb : encBad ss = false := by
    unfold encBad
    simp only [Bool.or_eq_false_iff, decide_eq_false_iff_not, List.any_eq_false, decide_eq_true_eq]
    refine ⟨hbig, fun s hs => ?_⟩
    obtain ⟨j, hj, rfl⟩ := nth_of_mem hs
    have := h200 j hj; omega
  obtain ⟨E, hE⟩ : ∃ E, E = idxX ss := ⟨_, rfl⟩
  have hE' : idx ss ss.length = E := hE.symm
  obtain ⟨i1, i2, i3⟩ := idx_facts ss ss.length (Nat.le_refl _)
  have hs2 := hshort ss.length (Nat.le_refl _)
  rw [hE'] at i1 i2 i3 hs2 g5
  have z0 := ilit0
  have e2 := txV_of (ss := E) rfl
  simp -implicitDefEqProofs (disch := omega) [g0, g5, g6, ht, ho, hlo, vn, z0, ← hE, hnb]
  obtain ⟨J, hJ⟩ : ∃ J : Nat → St → Prop, J = (fun (j : Nat) (s : St) => s.env 0 = v ∧ s.env 5 = .lst K (txV E) E.length ∧ s.env 7 = .lst (.tok 0 1) (ints .i64 (codesL E ss j)) j ∧ s.env 8 = .int .i64 j ∧ s.toks = [j] ∧ s.objs = objs ∧ s.low = objs.length) := ⟨_, rfl⟩
  refine .up ss.length J (by rw [hJ]; exact ⟨by simp [g0], by simp [g5], by simp [codesL, ints], by simp, by simp, by simp, by simp⟩) ?_
  intro j s hj hs
  rw [hJ] at hs
  obtain ⟨g0, g5, g7, g8, ht, ho, hlo⟩ := hs
  rcases Nat.lt_or_ge j ss.length with h | h
  · obtain ⟨c, c1, c1', c2⟩ := vc j h
    obtain ⟨cd, cn, -⟩ := bs c2
    have e1 := vi .i64 j (by omega) (by omega)
    rw [Int.toNat_natCast] at e1
    have kp : ∀ O, k_place [.lst .frozen (txV E) E.length, c] O = some (.int .i64 (aheadN E (nth ss j)), none) := fun O => by
      unfold k_place
      rw [con2_eq e2 c2, bnd_pos (by omega), pre_pos ⟨i1, hs2⟩]
    have l1 := ilit1 (aheadN E (nth ss j))
    have es := codesL_snoc E ss j
    have hm : (ints .i64 (codesL E ss j)).length = j := by simp [codesL]
    have hm2 := txV_len E
    simp -implicitDefEqProofs (disch := omega) [g0, g5, g7, g8, ht, ho, hlo, vn, e1, c1, c1', cd, cn, h, c_place, kp, l1, es, hm, Nat.mod_one, wrap_small]
    rw [hJ]
    exact ⟨by simp [g0], by simp [g5], by simp, by simp, by simp, by simp, by simp⟩
  obtain rfl : j = ss.length := by omega
  have hr := txV_refs E objs.length
  have hm : (ints .i64 (codesL E ss ss.length)).length = ss.length := by simp [codesL]
  rcases hK with rfl | rfl
  · simp -implicitDefEqProofs (disch := omega) [g0, g5, g7, g8, ht, ho, hlo, vn, hr, hm]
  · simp -implicitDefEqProofs (disch := omega) [g0, g5, g7, g8, ht, ho, hlo, vn, hr, hm])

end Go.Proofs.Ytjjldepikokogaa.B

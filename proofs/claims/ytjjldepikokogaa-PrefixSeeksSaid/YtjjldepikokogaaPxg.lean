import Derived.Test.YtjjldepikokogaaPxf
set_option linter.unusedSimpArgs false
set_option linter.unusedVariables false
set_option linter.unusedSectionVars false
set_option maxRecDepth 20000
set_option maxHeartbeats 1000000
namespace Go.Proofs.Ytjjldepikokogaa.B
open Go Go.Ab
theorem piece_eq (l : List Int) (q n m : Nat) (h : m = q + n) : pieceZ l (q : Int) ((m : Nat) : Int) = (l.drop q).take n := by
  subst h
  unfold pieceZ
  rw [Int.toNat_natCast, Int.toNat_natCast, List.drop_take]
  congr 1; omega
theorem textW_cases (b last : List Int) (whole : Bool) (k m to : Nat) (h0 : (textW b last whole k m to).err = 0) : k ≤ last.length ∧ (whole = true → k = 0) ∧ m + k ≤ 200 ∧ to + m ≤ b.length ∧ (whole = false → sharedN last (textS b last k m to) = k) ∧ textW b last whole k m to = ⟨textS b last k m to, ((to + m : Nat) : Int), 0⟩ := by
  unfold textW at h0 ⊢
  split at h0
  · cases h0
  split at h0
  · cases h0
  split at h0
  · cases h0
  split at h0
  · cases h0
  rename_i c1 c2 c3 c4
  rw [if_neg c1, if_neg c2, if_neg c3, if_neg c4]
  refine ⟨by omega, fun hw => ?_, by omega, by omega, fun hw => ?_, rfl⟩
  · rcases Nat.eq_zero_or_pos k with q | q
    · exact q
    · exact absurd (.inr ⟨hw, q⟩) c1
  · exact Decidable.byContradiction fun q => c4 ⟨hw, q⟩
theorem textZ_cases {b last : List Int} {p : Int} {whole : Bool} (h0 : (textZ b last p whole).err = 0) : ∃ k n1 m to, M.getR b p = (k, n1, 0) ∧ M.getR b n1 = (m, to, 0) ∧ textZ b last p whole = textW b last whole k.toNat m.toNat to.toNat ∧ (textW b last whole k.toNat m.toNat to.toNat).err = 0 := by
  obtain ⟨k, n1, e1, hg1⟩ : ∃ k n1 e1, M.getR b p = (k, n1, e1) := ⟨_, _, _, rfl⟩
  by_cases he1 : e1 = 0
  case neg => rw [textZ_e1 hg1 he1] at h0; exact absurd h0 he1
  subst he1
  obtain ⟨m, to, e2, hg2⟩ : ∃ m to e2, M.getR b n1 = (m, to, e2) := ⟨_, _, _, rfl⟩
  by_cases he2 : e2 = 0
  case neg => rw [textZ_e2 hg1 hg2 he2] at h0; exact absurd h0 he2
  subst he2
  have ht := textZ_ok (last := last) (whole := whole) hg1 hg2
  exact ⟨k, n1, m, to, hg1, hg2, ht, by rw [← ht]; exact h0⟩
theorem textZ_len {b last : List Int} {p : Int} {whole : Bool} (h0 : (textZ b last p whole).err = 0) : (textZ b last p whole).s.length ≤ 200 ∧ 0 ≤ (textZ b last p whole).next ∧ (textZ b last p whole).next ≤ b.length := by
  obtain ⟨k, n1, m, to, -, -, h3, h4⟩ := textZ_cases h0
  obtain ⟨c1, c2, c3, c4, c5, c6⟩ := textW_cases _ _ _ _ _ _ h4
  rw [h3, c6]
  refine ⟨?_, by simp only; omega, by simp only; omega⟩
  have : (textS b last k.toNat m.toNat to.toNat).length ≤ k.toNat + m.toNat := by unfold textS; rw [List.length_append, List.length_take, List.length_take]; omega
  simp only; omega
theorem textZ_bad {b last : List Int} {p : Int} {whole : Bool} (h0 : (textZ b last p whole).err ≠ 0) : (textZ b last p whole).next = 0 := by
  unfold textZ at h0 ⊢
  obtain ⟨k, n1, e1, hg1⟩ : ∃ k n1 e1, M.getR b p = (k, n1, e1) := ⟨_, _, _, rfl⟩
  rw [hg1] at h0 ⊢
  simp only at h0 ⊢
  split
  · rfl
  rename_i q1
  rw [if_neg q1] at h0
  split
  · rfl
  rename_i q2
  rw [if_neg q2] at h0
  unfold textW at h0 ⊢
  split
  · rfl
  rename_i c1; rw [if_neg c1] at h0
  split
  · rfl
  rename_i c2; rw [if_neg c2] at h0
  split
  · rfl
  rename_i c3; rw [if_neg c3] at h0
  split
  · rfl
  rename_i c4; rw [if_neg c4] at h0
  exact absurd rfl h0
/-- What is decoded behind i texts: the texts, the place, the last one, the error. -/
structure Dec where
  ts : List (List Int)
  p : Int
  last : List Int
  err : Int
def decI (b : List Int) (p0 : Int) : Nat → Dec
  | 0 => ⟨[], p0, [], 0⟩
  | i + 1 => if (decI b p0 i).err ≠ 0 then decI b p0 i else
    if (textZ b (decI b p0 i).last (decI b p0 i).p (decide (i % 16 = 0))).err ≠ 0 then ⟨(decI b p0 i).ts, (decI b p0 i).p, (decI b p0 i).last, (textZ b (decI b p0 i).last (decI b p0 i).p (decide (i % 16 = 0))).err⟩
    else ⟨(decI b p0 i).ts ++ [(textZ b (decI b p0 i).last (decI b p0 i).p (decide (i % 16 = 0))).s], (textZ b (decI b p0 i).last (decI b p0 i).p (decide (i % 16 = 0))).next, (textZ b (decI b p0 i).last (decI b p0 i).p (decide (i % 16 = 0))).s, 0⟩
theorem decI_stuck {b : List Int} {p0 : Int} {i : Nat} (h : (decI b p0 i).err ≠ 0) : ∀ j, decI b p0 (i + j) = decI b p0 i
  | 0 => rfl
  | j + 1 => by
    have ih := decI_stuck h j
    show decI b p0 ((i + j) + 1) = _
    rw [decI, if_pos (by rw [ih]; exact h), ih]
theorem decI_bad {b : List Int} {p0 : Int} {i : Nat} (h : (decI b p0 i).err = 0) (ht : (textZ b (decI b p0 i).last (decI b p0 i).p (decide (i % 16 = 0))).err ≠ 0) {n : Nat} (hn : i < n) : (decI b p0 n).err = (textZ b (decI b p0 i).last (decI b p0 i).p (decide (i % 16 = 0))).err := by
  have e : decI b p0 (i + 1) = ⟨(decI b p0 i).ts, (decI b p0 i).p, (decI b p0 i).last, (textZ b (decI b p0 i).last (decI b p0 i).p (decide (i % 16 = 0))).err⟩ := by
    rw [decI, if_neg (by simp [h]), if_pos ht]
  have hs := decI_stuck (i := i + 1) (by rw [e]; exact ht) (n - (i + 1))
  rw [show i + 1 + (n - (i + 1)) = n by omega] at hs
  rw [hs, e]
theorem decI_ok {b : List Int} {p0 : Int} {i : Nat} (h : (decI b p0 i).err = 0) (ht : (textZ b (decI b p0 i).last (decI b p0 i).p (decide (i % 16 = 0))).err = 0) : decI b p0 (i + 1) = ⟨(decI b p0 i).ts ++ [(textZ b (decI b p0 i).last (decI b p0 i).p (decide (i % 16 = 0))).s], (textZ b (decI b p0 i).last (decI b p0 i).p (decide (i % 16 = 0))).next, (textZ b (decI b p0 i).last (decI b p0 i).p (decide (i % 16 = 0))).s, 0⟩ := by
  rw [decI, if_neg (by simp [h]), if_neg (by simp [ht])]
theorem decI_facts {b : List Int} {p0 : Int} (h0 : 0 ≤ p0 ∧ p0 ≤ b.length) : ∀ i, (decI b p0 i).err = 0 → (decI b p0 i).ts.length = i ∧ (decI b p0 i).last.length ≤ 200 ∧ 0 ≤ (decI b p0 i).p ∧ (decI b p0 i).p ≤ b.length ∧ (∀ s ∈ (decI b p0 i).ts, s.length ≤ 200) ∧ ((decI b p0 i).ts = [] ∧ (decI b p0 i).last = [] ∨ ∃ ts, (decI b p0 i).ts = ts ++ [(decI b p0 i).last])
  | 0, _ => ⟨rfl, by simp [decI], h0.1, h0.2, by simp [decI], .inl ⟨rfl, rfl⟩⟩
  | i + 1, h => by
    by_cases he : (decI b p0 i).err = 0
    case neg => rw [decI, if_pos he] at h; exact absurd h he
    obtain ⟨f1, f2, f3, f4, f5, f6⟩ := decI_facts h0 i he
    by_cases ht : (textZ b (decI b p0 i).last (decI b p0 i).p (decide (i % 16 = 0))).err = 0
    case neg => rw [decI, if_neg (by simp [he]), if_pos ht] at h; exact absurd h ht
    obtain ⟨t1, t2, t3⟩ := textZ_len ht
    rw [decI_ok he ht]
    refine ⟨by simp [f1], t1, t2, t3, fun s hs => ?_, .inr ⟨_, rfl⟩⟩
    rcases List.mem_append.1 hs with q | q
    · exact f5 s q
    · simp at q; rw [q]; exact t1
def decErr (b : List Int) : Int := match M.getR b 0 with
  | (n, p0, e) => if e ≠ 0 then e else if 4096 < n then 4 else if (decI b p0 n.toNat).err ≠ 0 then (decI b p0 n.toNat).err else if (decI b p0 n.toNat).p < b.length then 3 else 0
def decTs (b : List Int) : List (List Int) := match M.getR b 0 with
  | (n, p0, e) => if decErr b ≠ 0 then [] else (decI b p0 n.toNat).ts
theorem decErr_e {b : List Int} {n p0 e : Int} (h : M.getR b 0 = (n, p0, e)) (he : e ≠ 0) : decErr b = e := by unfold decErr; rw [h]; simp [he]
theorem decErr_of {b : List Int} {n p0 : Int} (h : M.getR b 0 = (n, p0, 0)) : decErr b = if 4096 < n then 4 else if (decI b p0 n.toNat).err ≠ 0 then (decI b p0 n.toNat).err else if (decI b p0 n.toNat).p < b.length then 3 else 0 := by unfold decErr; rw [h]; simp
theorem decTs_of {b : List Int} {n p0 : Int} (h : M.getR b 0 = (n, p0, 0)) (h0 : decErr b = 0) : decTs b = (decI b p0 n.toNat).ts := by unfold decTs; rw [h]; simp [h0]
theorem decTs_bad {b : List Int} (h0 : decErr b ≠ 0) : decTs b = [] := by unfold decTs; split; rw [if_pos h0]
/-- Texts as the program hands them out: none is told as nil. -/
def emp (ts : List (List Int)) : Bool := ts.all fun s => s.isEmpty
def cellN (ts : List (List Int)) (s : List Int) : V := if emp (ts ++ [s]) = true then .nils else .lst .frozen (ints .u8 s) s.length
def cellsN : List (List Int) → List (List Int) → List V
  | _, [] => []
  | p, s :: ss => cellN p s :: cellsN (p ++ [s]) ss
theorem cellsN_snoc : ∀ (p ts : List (List Int)) (s : List Int), cellsN p (ts ++ [s]) = cellsN p ts ++ [cellN (p ++ ts) s]
  | p, [], s => by simp [cellsN]
  | p, t :: ts, s => by simp [cellsN, cellsN_snoc (p ++ [t]) ts s]
theorem cellsN_len : ∀ (p ts : List (List Int)), (cellsN p ts).length = ts.length
  | p, [] => rfl
  | p, t :: ts => by simp [cellsN, cellsN_len (p ++ [t]) ts]
theorem cellN_of (ts : List (List Int)) (s : List Int) : ofInts .u8 (cellN ts s) = some s := by
  unfold cellN
  split
  · rename_i h
    have : s = [] := by simp [emp] at h; exact h.2
    rw [this]; rfl
  · exact ofInts_lst rfl
theorem cellN_ok (ts : List (List Int)) (s : List Int) : isDef (cellN ts s) = true ∧ cellsOf (cellN ts s) = [cellN ts s] ∧ oneCell (cellN ts s) = true ∧ demote (cellN ts s) = cellN ts s ∧ ∀ b, Ab.noref b (cellN ts s) = true := by
  unfold cellN
  split
  · exact ⟨rfl, rfl, rfl, rfl, fun _ => rfl⟩
  · exact ⟨rfl, rfl, rfl, rfl, fun _ => by simp⟩
theorem cellsN_of : ∀ (p ts : List (List Int)), ofCells (ofInts .u8) (cellsN p ts) = some ts
  | p, [] => rfl
  | p, t :: ts => ofCells_cons (cellN_of p t) (cellsN_of (p ++ [t]) ts)
theorem cellsN_refs (b : Nat) : ∀ (p ts : List (List Int)), norefs b (cellsN p ts) = true
  | p, [] => rfl
  | p, t :: ts => by simp [cellsN, norefs, (cellN_ok p t).2.2.2.2 b, cellsN_refs b (p ++ [t]) ts]
def decV (ts : List (List Int)) : V := if ts = [] then .nils else .lst (.fresh 1 false) (cellsN [] ts) ts.length
noncomputable def k_pDecode : Ab.Spec := con1 (ofInts .u8) fun b _ => bnd b.length 140737488352000 (if b8 b = true then some (.tup [decV (decTs b), .int .i64 (decErr b)], none) else none)
noncomputable def T_pDecode : CallF := withF T_ptext 14 k_pDecode
theorem T_pDecode_ok : CallOk Try.prog T_pDecode := con_of (A := annOf [] [] [] false []) fit T_ptext_ok (fn := Try.f14) (by kernel_rfl) (by kernel_rfl) (by
  intro args objs r h0
  have c_VGet : ∀ a o, T_ptext 33 a o = k_VGet a o := fun _ _ => rfl
  have c_ptext : ∀ a o, T_ptext 34 a o = k_ptext a o := fun _ _ => rfl
  obtain ⟨v, b, rfl, ha, hR⟩ := con1_inv h0
  obtain ⟨hl, hR⟩ := bnd_inv hR
  split at hR
  case isFalse => cases hR
  rename_i h8
  cases hR
  have hBy := b8_bytes h8
  obtain ⟨vd, vn, vi, -⟩ := bs ha
  refine .go _ rfl rfl ?_
  obtain ⟨n, p0, e, hg⟩ : ∃ n p0 e, M.getR b 0 = (n, p0, e) := ⟨_, _, _, rfl⟩
  have gv : getVR b 0 = some (.tup [.int .u64 n, .int .i64 p0, .int .i64 e], none) := by unfold getVR; rw [hg]
  by_cases he : e = 0
  case neg =>
    have he' : (e != 0) = true := by simpa using he
    have hd := decErr_e hg he
    have hts := decTs_bad (b := b) (by rw [hd]; exact he)
    simp -implicitDefEqProofs (disch := omega) [vd, ha, c_VGet, k_VGet, h8, gv, hd, hts, decV, he, he']
  subst he
  obtain ⟨g1, g2, g3, g4, g5, g6, g7⟩ := M.getR_ok hBy hg
  have hde := decErr_of hg
  by_cases hbig : 4096 < n
  · rw [if_pos hbig] at hde
    have hts := decTs_bad (b := b) (by rw [hde]; decide)
    simp -implicitDefEqProofs (disch := omega) [vd, ha, c_VGet, k_VGet, h8, gv, hde, hts, decV, hbig]
  rw [if_neg hbig] at hde
  obtain ⟨N, rfl⟩ := Int.eq_ofNat_of_zero_le g5
  rw [Int.toNat_natCast] at hde
  have hbig' : ¬ 4096 < N := by omega
  simp -implicitDefEqProofs (disch := omega) [vd, ha, c_VGet, k_VGet, h8, gv, hbig']
  obtain ⟨I, hI⟩ : ∃ I : Nat → St → Prop, I = (fun (i : Nat) (s : St) => (decI b p0 i).err = 0 ∧ s.env 0 = v ∧ s.env 23 = .int .u64 N ∧ s.env 24 = .int .u64 i ∧ s.env 5 = .int .i64 (decI b p0 i).p ∧ (∃ lv, s.env 8 = lv ∧ ofIntsR .u8 objs lv = some (decI b p0 i).last ∧ demote lv = lv ∧ isNils lv = emp (decI b p0 i).ts) ∧ s.objs = objs ∧ s.low = objs.length ∧ (i = 0 ∧ s.env 7 = .nils ∧ s.toks = [] ∨ 0 < i ∧ s.env 7 = .lst (.tok 0 1) (cellsN [] (decI b p0 i).ts) i ∧ s.toks = [i])) := ⟨_, rfl⟩
  refine .up N I (by rw [hI]; exact ⟨rfl, by simp, by simp, by simp, by simp [decI], ⟨.nils, by simp, rfl, rfl, rfl⟩, by simp, by simp, .inl ⟨rfl, by simp, by simp⟩⟩) ?_
  intro i s hi hs
  rw [hI] at hs
  obtain ⟨he, g0, g23, g24, g5', ⟨lv, g8, hla, ld, lnil⟩, ho, hlo, h7⟩ := hs
  obtain ⟨f1, f2, f3, f4, f5, f6⟩ := decI_facts (b := b) (p0 := p0) ⟨by omega, by omega⟩ i he
  obtain ⟨D, hD⟩ : ∃ D, D = decI b p0 i := ⟨_, rfl⟩
  rcases Nat.lt_or_ge i N with h | h
  · have hmod : (((i : Int).tmod 16) == 0) = decide (i % 16 = 0) := by
      rw [Int.tmod_eq_emod_of_nonneg (by omega)]
      by_cases q : i % 16 = 0
      · rw [decide_eq_true q]; simp; omega
      · rw [decide_eq_false q]; simp; omega
    have hmod2 : decide ((i : Int) % 16 = 0) = decide (i % 16 = 0) := decide_eq_decide.2 (by omega)
    have hmod3 : (((i : Int) % 16) == 0) = decide (i % 16 = 0) := by
      by_cases q : i % 16 = 0
      · rw [decide_eq_true q]; simp; omega
      · rw [decide_eq_false q]; simp; omega
    have hmod4 : ((i : Int) % 16 = 0) = (i % 16 = 0) := propext (by omega)
    by_cases ht : (textZ b (decI b p0 i).last (decI b p0 i).p (decide (i % 16 = 0))).err = 0
    · have hok := decI_ok he ht
      obtain ⟨t1, t2, t3⟩ := textZ_len ht
      have lnil' := lnil
      rw [← hD] at ht hok t1 t2 t3 hla g5' h7 f1 f2 f3 f4 lnil
      obtain ⟨Z, hZ⟩ : ∃ Z, Z = textZ b D.last D.p (decide (i % 16 = 0)) := ⟨_, rfl⟩
      rw [← hZ] at ht hok t1 t2 t3
      have htx : demote (txtV (emp D.ts) Z) = cellN D.ts Z.s := by
        unfold txtV cellN
        rw [if_neg (by simp [ht])]
        have : emp (D.ts ++ [Z.s]) = (emp D.ts && Z.s.isEmpty) := by simp [emp]
        by_cases q1 : emp D.ts = true
        · by_cases q2 : Z.s = []
          · rw [if_pos ⟨q1, q2⟩, if_pos (by rw [this, q1, q2]; rfl)]; rfl
          · rw [if_neg (fun q => q2 q.2), if_neg (by rw [this, q1]; simpa using q2)]; rfl
        · rw [if_neg (fun q => q1 q.1), if_neg (by rw [this]; simp [q1])]; rfl
      have hnt : ntup (cellN D.ts Z.s) = some (cellN D.ts Z.s) := by unfold cellN; split <;> rfl
      obtain ⟨k1, k2, k3, k4, k5⟩ := cellN_ok D.ts Z.s
      have l1 := llit1 k1 k2
      have cs := cellsN_snoc [] D.ts Z.s
      rw [List.nil_append] at cs
      have clen := cellsN_len [] D.ts
      have hn1 : isNils (cellN D.ts Z.s) = emp (D.ts ++ [Z.s]) := by
        unfold cellN; split
        · rename_i q; rw [q]; rfl
        · rename_i q; simp at q; rw [q]; rfl
      have fin : ∀ (j : Nat) (s' : St), j = i + 1 → s'.env 0 = v → s'.env 23 = .int .u64 N → s'.env 24 = .int .u64 ((i : Int) + 1) → s'.env 5 = .int .i64 Z.next → s'.env 8 = cellN D.ts Z.s → s'.objs = objs → s'.low = objs.length → s'.env 7 = .lst (.tok 0 1) (cellsN [] (D.ts ++ [Z.s])) (i + 1) → s'.toks = [i + 1] → I j s' := by
        intro j s' hj z1 z2 z3 z4 z5 z6 z7 z8 z9
        subst hj
        rw [hI]
        exact ⟨by rw [hok], z1, z2, z3, by rw [hok]; exact z4, ⟨_, z5, by rw [hok]; exact ofIntsR_of (cellN_of _ _), k4, by rw [hok]; exact hn1⟩, z6, z7, .inr ⟨by omega, by rw [hok]; exact z8, z9⟩⟩
      have wi1 : IntKind.u64.wrap ((i : Int) + 1) = (i : Int) + 1 := wrap_u64 (by omega) (by omega)
      rcases h7 with ⟨rfl, g7, ht0⟩ | ⟨hpos, g7, ht0⟩
      · have hts0 : D.ts = [] := List.eq_nil_of_length_eq_zero f1
        rw [hts0] at fin l1 htx hnt k1 k3 lnil
        have cs0 : cellsN [] ([] ++ [Z.s]) = [cellN [] Z.s] := rfl
        rw [cs0] at fin
        rw [hts0] at k4
        have wz1 : IntKind.u64.wrap 1 = 1 := rfl
        have hZ0 : textZ b D.last D.p true = Z := by rw [hZ]; rfl
        simp -implicitDefEqProofs (disch := omega) [g0, g23, g24, g5', g8, g7, ht0, ho, hlo, vd, ld, ha, h, c_ptext, k_ptext, hla, h8, f2, lnil, hZ0, ht, htx, hnt, k1, k3, k4, l1, wi1, wz1]
        refine fin _ _ rfl (by simp [g0]) (by simp [g23]) (by simp) (by simp) (by simp) (by simp) (by simp) (by simp) (by simp)
      · simp -implicitDefEqProofs (disch := omega) [g0, g23, g24, g5', g8, g7, ht0, ho, hlo, vd, ld, ha, h, c_ptext, k_ptext, hla, h8, f2, lnil, hmod, hmod2, hmod3, hmod4, ← hZ, ht, htx, hnt, k1, k3, k4, l1, wi1, clen, f1, Nat.mod_one]
        refine fin _ _ rfl (by simp [g0]) (by simp [g23]) (by simp) (by simp) (by simp) (by simp) (by simp) (by simp [cs]) (by simp)
    · have hbad := decI_bad he ht h
      have hn0 := textZ_bad ht
      rw [← hD] at ht hbad hla g5' f2 lnil hn0
      obtain ⟨Z, hZ⟩ : ∃ Z, Z = textZ b D.last D.p (decide (i % 16 = 0)) := ⟨_, rfl⟩
      rw [← hZ] at ht hbad hn0
      have hde2 : decErr b = Z.err := by rw [hde, if_pos (by rw [hbad]; exact ht), hbad]
      have hts := decTs_bad (b := b) (by rw [hde2]; exact ht)
      have ht' : (Z.err != 0) = true := by simpa using ht
      have htx : txtV (emp D.ts) Z = .nils := by unfold txtV; rw [if_pos ht]
      simp -implicitDefEqProofs (disch := omega) [g0, g23, g24, g5', g8, ho, hlo, vd, ld, ha, h, c_ptext, k_ptext, hla, h8, f2, lnil, hmod, hmod2, hmod3, hmod4, ← hZ, ht, ht', htx, hn0, hde2, hts, decV]
      try (rcases h7 with ⟨rfl, g7, ht0⟩ | ⟨hpos, g7, ht0⟩ <;> simp -implicitDefEqProofs [g7, ht0])
  · obtain rfl : i = N := by omega
    rw [if_neg (by simp [he])] at hde
    by_cases hlt : (decI b p0 i).p < b.length
    · rw [if_pos hlt] at hde
      have hts := decTs_bad (b := b) (by rw [hde]; decide)
      simp -implicitDefEqProofs (disch := omega) [g0, g23, g24, g5', g8, ho, hlo, vn, hlt, hde, hts, decV]
    · rw [if_neg hlt] at hde
      have hts := decTs_of hg hde
      rw [Int.toNat_natCast] at hts
      rcases h7 with ⟨rfl, g7, ht0⟩ | ⟨hpos, g7, ht0⟩
      · have hts0 : (decI b p0 0).ts = [] := rfl
        simp -implicitDefEqProofs (disch := omega) [g0, g23, g24, g5', g8, g7, ht0, ho, hlo, vn, hlt, hde, hts, hts0, decV]
      · have hne : ¬ (decI b p0 i).ts = [] := fun q => by rw [q] at f1; simp at f1; omega
        have hr := cellsN_refs objs.length [] (decI b p0 i).ts
        have clen := cellsN_len [] (decI b p0 i).ts
        simp -implicitDefEqProofs (disch := omega) [g0, g23, g24, g5', g8, g7, ht0, ho, hlo, vn, hlt, hde, hts, decV, hne, hr, clen, f1])

end Go.Proofs.Ytjjldepikokogaa.B

import Derived.Test.YtiaihiccaoibgaaDoorKyE
set_option linter.unusedSimpArgs false
set_option linter.unusedVariables false
set_option linter.unusedSectionVars false
set_option maxRecDepth 20000
set_option maxHeartbeats 1000000
namespace Go.Proofs.YtiaihiccaoibgaaDoor.B
open Go Go.Ab
/-! what is read from a key -/
def uN (l : List Int) : Int := l.foldl (fun u c => u * 256 + c) 0
theorem uN_snoc (l : List Int) (c : Int) : uN (l ++ [c]) = uN l * 256 + c := by unfold uN; rw [List.foldl_append]; rfl
theorem uN_range : ∀ (n : Nat) {l : List Int} (_ : ∀ c ∈ l, 0 ≤ c ∧ c < 256) (_ : l.length = n), 0 ≤ uN l ∧ uN l < 256 ^ n
  | 0, l, _, h => by
    rw [List.eq_nil_of_length_eq_zero h]; decide
  | n + 1, l, hb, h => by
    obtain ⟨m, c, rfl⟩ : ∃ m c, l = m ++ [c] := by
      have hne : l ≠ [] := by rintro rfl; simp at h
      exact ⟨l.dropLast, l.getLast hne, (List.dropLast_concat_getLast hne).symm⟩
    have ih := uN_range n (l := m) (fun c hc => hb c (by simp [hc])) (by simpa using h)
    have hc := hb c (by simp)
    rw [uN_snoc, Int.pow_succ]; omega
theorem pow_le8 {n : Nat} (h : n ≤ 8) : ((256 : Int) ^ n) ≤ 18446744073709551616 := by
  have := Nat.pow_le_pow_right (show 0 < 256 by decide) h
  have e : ((256 : Int) ^ n) = ((256 ^ n : Nat) : Int) := by simp
  rw [e]; omega
def unK (k u : Int) : Int := if k ≤ 4 then u + leastR k else u
def rd7 : List Int → Option (List Int × Nat)
  | [] => none
  | c :: l => if c = 0 then some ([], 1) else (rd7 l).map fun p => (c :: p.1, p.2 + 1)
def rd8 : List Int → Option (List Int × Nat)
  | [] => none
  | [_] => none
  | c :: d :: l => if c = 0 then (if d = 0 then some ([], 2) else if d = 255 then (rd8 l).map fun p => (0 :: p.1, p.2 + 2) else none) else (rd8 (d :: l)).map fun p => (c :: p.1, p.2 + 1)
structure DG where
  i : Int
  t : Option (List Int)
  n : Nat
  ok : Bool
def DG.bad : DG := ⟨0, none, 0, false⟩
def rdT (o : Option (List Int × Nat)) : DG := match o with | some (t, n) => ⟨0, some t, n, true⟩ | none => .bad
def rdG (k : Int) (l : List Int) : DG :=
  if k ≤ 6 then (if l.length < (ksize k).toNat then .bad else ⟨unK k (uN (l.take (ksize k).toNat)), none, (ksize k).toNat, true⟩) else if k = 7 then rdT (rd7 l) else rdT (rd8 l)
theorem rd7_ok : ∀ {l : List Int} {t : List Int} {n : Nat}, rd7 l = some (t, n) → n ≤ l.length ∧ t.length < n ∧ 1 ≤ n ∧ ∀ c ∈ t, c ∈ l
  | [], t, n, h => by cases h
  | c :: l, t, n, h => by
    unfold rd7 at h
    split at h
    · cases h; exact ⟨by simp, by simp, by omega, by simp⟩
    · obtain ⟨p, hp, h⟩ := Option.map_eq_some_iff.1 h
      cases h
      obtain ⟨h1, h2, h3, h4⟩ := rd7_ok (l := l) (t := p.1) (n := p.2) hp
      refine ⟨by simp; omega, by simp; omega, by omega, fun x hx => ?_⟩
      rcases List.mem_cons.1 hx with rfl | hx
      · simp
      · exact List.mem_cons_of_mem _ (h4 x hx)
theorem rd8_ok : ∀ {l : List Int} {t : List Int} {n : Nat}, rd8 l = some (t, n) → n ≤ l.length ∧ t.length < n ∧ 1 ≤ n ∧ ∀ c ∈ t, c ∈ l
  | [], t, n, h => by cases h
  | [_], t, n, h => by cases h
  | c :: d :: l, t, n, h => by
    unfold rd8 at h
    split at h
    · rename_i hc
      split at h
      · cases h; exact ⟨by simp, by simp, by omega, by simp⟩
      · split at h
        · obtain ⟨p, hp, h⟩ := Option.map_eq_some_iff.1 h
          cases h
          obtain ⟨h1, h2, h3, h4⟩ := rd8_ok (l := l) (t := p.1) (n := p.2) hp
          refine ⟨by simp; omega, by simp; omega, by omega, fun x hx => ?_⟩
          rcases List.mem_cons.1 hx with rfl | hx
          · simp [hc]
          · exact List.mem_cons_of_mem _ (List.mem_cons_of_mem _ (h4 x hx))
        · cases h
    · obtain ⟨p, hp, h⟩ := Option.map_eq_some_iff.1 h
      cases h
      obtain ⟨h1, h2, h3, h4⟩ := rd8_ok (l := d :: l) (t := p.1) (n := p.2) hp
      refine ⟨by simp at h1 ⊢; omega, by simp; omega, by omega, fun x hx => ?_⟩
      rcases List.mem_cons.1 hx with rfl | hx
      · simp
      · exact List.mem_cons_of_mem _ (h4 x hx)
theorem knum_back {k u : Int} (h1 : 1 ≤ k) (h6 : k ≤ 6) (u0 : 0 ≤ u) (u1 : u < 256 ^ (ksize k).toNat) : i64B (unK k u) = true ∧ (k ≤ 4 → IntKind.u64.wrap (u * 2 ^ (64 - 8 * ksize k).toNat) = u * 2 ^ (64 - 8 * ksize k).toNat ∧ 0 ≤ u * 2 ^ (64 - 8 * ksize k).toNat ∧ u * 2 ^ (64 - 8 * ksize k).toNat < 18446744073709551616 ∧ (u * 2 ^ (64 - 8 * ksize k).toNat - 9223372036854775808).fdiv (2 ^ (64 - 8 * ksize k).toNat) = unK k u) ∧ (¬ k ≤ 4 → IntKind.i64.wrap u = u) := by
  obtain rfl | rfl | rfl | rfl | rfl | rfl : k = 1 ∨ k = 2 ∨ k = 3 ∨ k = 4 ∨ k = 5 ∨ k = 6 := by omega
  all_goals
    simp [ksize] at u1
    refine ⟨i64B_iff.2 ?_, fun k4 => ?_, fun k4 => ?_⟩
  · simp [unK, leastR]; omega
  · simp [ksize, unK, leastR]; refine ⟨wrap_u64 (by omega) (by omega), by omega, by omega, ?_⟩; rw [Int.fdiv_eq_ediv_of_nonneg _ (by decide)]; omega
  · omega
  · simp [unK, leastR]; omega
  · simp [ksize, unK, leastR]; refine ⟨wrap_u64 (by omega) (by omega), by omega, by omega, ?_⟩; rw [Int.fdiv_eq_ediv_of_nonneg _ (by decide)]; omega
  · omega
  · simp [unK, leastR]; omega
  · simp [ksize, unK, leastR]; refine ⟨wrap_u64 (by omega) (by omega), by omega, by omega, ?_⟩; rw [Int.fdiv_eq_ediv_of_nonneg _ (by decide)]; omega
  · omega
  · simp [unK, leastR]; omega
  · simp [ksize, unK, leastR]; exact ⟨wrap_u64 (by omega) (by omega), by omega, by omega⟩
  · omega
  · simp [unK]; omega
  · omega
  · exact wrap_small (by omega) (by omega)
  · simp [unK]; omega
  · omega
  · exact wrap_small (by omega) (by omega)
theorem rdG_ok {k : Int} {l : List Int} (h1 : 1 ≤ k) (h8 : b8 l = true) : i64B (rdG k l).i = true ∧ (rdG k l).n ≤ l.length ∧ ∀ t, (rdG k l).t = some t → b8 t = true ∧ t.length < (rdG k l).n := by
  have hB := b8_iff.1 h8
  have T : ∀ o : Option (List Int × Nat), (∀ t n, o = some (t, n) → n ≤ l.length ∧ t.length < n ∧ 1 ≤ n ∧ ∀ c ∈ t, c ∈ l) → i64B (rdT o).i = true ∧ (rdT o).n ≤ l.length ∧ ∀ t, (rdT o).t = some t → b8 t = true ∧ t.length < (rdT o).n := fun o ho => by
    cases o with
    | none => exact ⟨rfl, Nat.zero_le _, fun t h => by cases h⟩
    | some p =>
      obtain ⟨a1, a2, a3, a4⟩ := ho p.1 p.2 rfl
      exact ⟨rfl, a1, fun t h => by cases h; exact ⟨b8_iff.2 fun c hc => hB c (a4 c hc), a2⟩⟩
  unfold rdG
  split
  · rename_i k6
    split
    · exact ⟨rfl, Nat.zero_le _, fun t h => by cases h⟩
    · rename_i hn
      have hl : (l.take (ksize k).toNat).length = (ksize k).toNat := by rw [List.length_take]; omega
      obtain ⟨u0, u1⟩ := uN_range _ (l := l.take (ksize k).toNat) (fun c hc => hB c (List.mem_of_mem_take hc)) hl
      exact ⟨(knum_back h1 k6 u0 u1).1, by simp only; omega, fun t h => by cases h⟩
  split
  · exact T _ fun t n h => rd7_ok h
  · exact T _ fun t n h => rd8_ok h
theorem or_hi {x y : Int} (hx0 : 0 ≤ x) (hx : x < 256) (hy0 : 0 ≤ y) (hb : y * 256 + x < 18446744073709551616) : Go.bits .or .u64 (y * 256) x = y * 256 + x := by
  obtain ⟨a, rfl⟩ := Int.eq_ofNat_of_zero_le hx0
  obtain ⟨b, rfl⟩ := Int.eq_ofNat_of_zero_le hy0
  have ha : a < 2 ^ 8 := by omega
  have hc : a + 2 ^ 8 * b < 2 ^ 64 := by omega
  have e : ((b : Int) * 256) = ((2 ^ 8 * b : Nat) : Int) := by omega
  rw [e, (Go.bits_nat .u64 64 (by decide) M.wraps_u64 (2 ^ 8 * b) a (by omega) (by omega)).2, ← Nat.two_pow_add_eq_or_of_lt ha b]
  omega
theorem told_of {w : V} {l : List Int} (h : ofIntsR .u8 [] w = some l) : ofInts .u8 w = some l := by
  rcases ofIntsR_inv h with h | ⟨id, ver, off, cs, -, hg, -⟩
  · exact h
  · simp [Ab.getObj] at hg
theorem told_cut {v : V} {l : List Int} (h : ofInts .u8 v = some l) (lo hi : Option V) (a b : Nat) (ha : boundV lo 0 = some a) (hb : boundV hi l.length = some b) (hab : a ≤ b) (hl : b ≤ l.length) :
    ∃ w, (∀ O, cutV Tryd.prog 28 O v lo hi none = some w) ∧ ofInts .u8 w = some ((l.take b).drop a) ∧ isNils w = isNils v ∧ demote w = w ∧ ntup w = some w := by
  obtain ⟨w, h1, h2, h3, h4, h5⟩ := cutR (ofIntsR_of (objs := []) h) lo hi none a b ha hb hab hl (.inl rfl)
  exact ⟨w, h1, told_of h2, h3, h4, h5⟩
def cellD (g : DG) (w : V) : V := .tup [.agg [.bool false, .int .i64 g.i, w], .int .i64 g.n, .bool g.ok]
noncomputable def k_RdNum : Ab.Spec := con2 (ofInt .i64) (ofInts .u8) fun k b _ => if 1 ≤ k ∧ k ≤ 6 ∧ b8 b = true then bnd b.length 140737488355328 (some (cellD (rdG k b) .nils, none)) else none
noncomputable def T_RdNum : CallF := withF T_KeysRange 66 k_RdNum
theorem T_RdNum_ok : CallOk Tryd.prog T_RdNum := con_of (A := annOf [] [] [] false []) fit T_KeysRange_ok (fn := Tryd.f66) (by kernel_rfl) (by kernel_rfl) (by
  intro args objs r h0
  have c_ksize : ∀ a o, T_KeysRange 71 a o = k_ksize a o := fun _ _ => rfl
  have c_signed : ∀ a o, T_KeysRange 72 a o = k_signed a o := fun _ _ => rfl
  have c_Unflip : ∀ a o, T_KeysRange 75 a o = k_Unflip a o := fun _ _ => rfl
  obtain ⟨_, v, k, b, rfl, hk, hb, hR⟩ := con2_inv h0
  obtain rfl := ofInt_inv hk
  split at hR
  case isFalse => cases hR
  rename_i hc
  obtain ⟨k1, k6, h8⟩ := hc
  obtain ⟨hbl, hR⟩ := bnd_inv hR
  cases hR
  have hB := b8_iff.1 h8
  obtain ⟨vd, vn, vi, -⟩ := bs hb
  obtain ⟨n1, n8⟩ := ksize_pos ⟨k1, k6⟩
  obtain ⟨n, hn⟩ := Int.eq_ofNat_of_zero_le (show 0 ≤ ksize k by omega)
  have hG : rdG k b = if b.length < n then .bad else ⟨unK k (uN (b.take n)), none, n, true⟩ := by unfold rdG; rw [if_pos k6, hn]; rfl
  refine .go _ rfl rfl ?_
  rw [hG]
  by_cases hs : b.length < n
  · rw [if_pos hs]
    have hs2 : ((b.length : Int) < n) := by omega
    simp -implicitDefEqProofs (disch := omega) [vd, vn, c_ksize, k_ksize, k1, k6, hn, hs, fitC0, setCells, cellD, DG.bad]
  rw [if_neg hs]
  obtain ⟨w, cw, hw, -, wd, -⟩ := told_cut hb none (some (.int .i64 (n : Int))) 0 n rfl (by simp [boundV]) (by omega) (by omega)
  rw [List.drop_zero] at hw
  obtain ⟨-, wn, wi, -⟩ := bs hw
  obtain ⟨L, hL⟩ : ∃ L, L = b.take n := ⟨_, rfl⟩
  have hLl : L.length = n := by rw [hL, List.length_take]; omega
  rw [← hL] at hw wn wi
  rw [hLl] at wn wi
  have hLB : ∀ c ∈ L, 0 ≤ c ∧ c < 256 := fun c hc => hB c (List.mem_of_mem_take (hL ▸ hc))
  obtain ⟨u0, u1⟩ := uN_range n hLB hLl
  have hkb := knum_back k1 k6 u0 (by rw [hn]; exact u1)
  rw [hn] at hkb
  obtain ⟨-, kb1, kb2⟩ := hkb
  rw [← hL]
  have hs2 : ¬ ((b.length : Int) < n) := by omega
  have hsub : IntKind.i64.wrap (64 - 8 * (n : Int)) = 64 - 8 * (n : Int) := wrap_small (by omega) (by omega)
  have hsub2 : IntKind.u64.wrap (64 - 8 * (n : Int)) = 64 - 8 * (n : Int) := wrap_u64 (by omega) (by omega)
  have hmul : IntKind.i64.wrap (8 * (n : Int)) = 8 * (n : Int) := wrap_small (by omega) (by omega)
  have hneg : ¬ (64 - 8 * (n : Int) < 0) := by omega
  simp -implicitDefEqProofs (disch := omega) [vd, vn, c_ksize, k_ksize, k1, k6, hn, hs, cw, wn]
  obtain ⟨O, hO⟩ : ∃ O, O = objs ++ [AO.cells [.bool false, .int .i64 0, .nils] 0] := ⟨_, rfl⟩
  rw [← hO]
  have b1 : Ab.getObj O objs.length 0 = some [.bool false, .int .i64 0, .nils] := by rw [hO]; simp
  have hOs : ∀ X, O.set objs.length X = objs ++ [X] := fun X => by rw [hO]; simp
  obtain ⟨I, hI⟩ : ∃ I : Nat → St → Prop, I = (fun (i : Nat) (z : St) => z.env 0 = .int .i64 k ∧ z.env 4 = .ptr objs.length 0 0 ∧ z.env 7 = .int .i64 n ∧ z.env 8 = .int .u64 (uN (L.take i)) ∧ z.env 21 = w ∧ z.env 22 = .int .i64 n ∧ z.env 23 = .int .i64 i ∧ z.toks = [] ∧ z.low = objs.length ∧ z.objs = O) := ⟨_, rfl⟩
  refine .up n I (by rw [hI]; exact ⟨by simp, by simp, by simp, by simp [uN], by simp, by simp, by simp, rfl, rfl, rfl⟩) ?_
  intro i z hi hz
  rw [hI] at hz
  obtain ⟨e0, e4, e7, e8, e21, e22, e23, ht, hlo, ho⟩ := hz
  rcases Nat.lt_or_ge i n with h | h
  case inr =>
    obtain rfl : i = n := by omega
    rw [List.take_of_length_le (by omega)] at e8
    obtain ⟨U, hU⟩ : ∃ U, U = uN L := ⟨_, rfl⟩
    rw [← hU] at e8 kb1 kb2 u0 u1 ⊢
    by_cases k4 : k ≤ 4
    · obtain ⟨m1, m2, m3, m4⟩ := kb1 k4
      obtain ⟨Z, hZ⟩ : ∃ Z, Z = U * 2 ^ (64 - 8 * (i : Int)).toNat := ⟨_, rfl⟩
      rw [← hZ] at m1 m2 m3 m4
      obtain ⟨Q, hQ⟩ : ∃ Q, Q = IntKind.i64.wrap U := ⟨_, rfl⟩
      simp -implicitDefEqProofs (disch := omega) [e0, e4, e7, e8, e21, e22, e23, ht, ho, hlo, c_signed, k_signed, k4, convV, ← hQ, hmul, hsub, hsub2, hneg, ← hZ, m1, c_Unflip, k_Unflip, m2, m3, m4, fitC2, b1, hOs, setCells, cellD]
    · have m5 := kb2 k4
      have hK : unK k U = U := if_neg k4
      simp -implicitDefEqProofs (disch := omega) [e0, e4, e7, e8, e21, e22, e23, ht, ho, hlo, c_signed, k_signed, k4, convV, m5, fitC2, b1, hOs, setCells, cellD, hK]
  have ix := wi .i64 i (by omega) (by omega)
  rw [Int.toNat_natCast] at ix
  have g := ints_nth (k := .u8) (l := L) (i := i) (by omega)
  have hx := hLB _ (nth_mem (l := L) (i := i) (by omega))
  obtain ⟨x, hxx⟩ : ∃ x, x = nth L i := ⟨_, rfl⟩
  have hs3 : uN (L.take (i + 1)) = uN (L.take i) * 256 + x := by rw [take_nth (by omega), uN_snoc, hxx]
  rw [← hxx] at g hx
  obtain ⟨v0, v1⟩ := uN_range i (l := L.take i) (fun c hc => hLB c (List.mem_of_mem_take hc)) (by rw [List.length_take]; omega)
  obtain ⟨U, hU⟩ : ∃ U, U = uN (L.take i) := ⟨_, rfl⟩
  rw [← hU] at e8 hs3 v0 v1
  have hi7 : U < 72057594037927936 := by
    have := Nat.pow_le_pow_right (show 0 < 256 by decide) (show i ≤ 7 by omega)
    have e : ((256 : Int) ^ i) = ((256 ^ i : Nat) : Int) := by simp
    rw [e] at v1; omega
  have w1 : IntKind.u64.wrap (U * 256) = U * 256 := wrap_u64 (by omega) (by omega)
  have w2 : IntKind.u64.wrap x = x := wrap_u64 (by omega) (by omega)
  have w3 := or_hi (x := x) (y := U) hx.1 hx.2 v0 (by omega)
  simp -implicitDefEqProofs (disch := omega) [e0, e4, e7, e8, e21, e22, e23, ht, ho, hlo, h, ix, g, convV, w1, w2, w3, wrap_small]
  rw [hI]
  exact ⟨by simp [e0], by simp [e4], by simp [e7], by simp [hs3], by simp [e21], by simp [e22], by simp, rfl, rfl, rfl⟩)

end Go.Proofs.YtiaihiccaoibgaaDoor.B
set_option maxRecDepth 20000
set_option maxHeartbeats 1000000
namespace Go.Proofs.YtiaihiccaoibgaaDoor.B
open Go Go.Ab
/-! reading texts -/
theorem rd8_none : ∀ {p : List Int}, (0 : Int) ∉ p → rd8 p = none
  | [], _ => rfl
  | [_], _ => rfl
  | a :: d :: p, h => by
    rw [List.mem_cons, not_or] at h
    unfold rd8
    rw [if_neg (fun q => h.1 q.symm), rd8_none h.2]; rfl
theorem rd8_cc (c d : Int) (l : List Int) : rd8 (c :: d :: l) = if c = 0 then (if d = 0 then some ([], 2) else if d = 255 then (rd8 l).map fun p => (0 :: p.1, p.2 + 2) else none) else (rd8 (d :: l)).map fun p => (c :: p.1, p.2 + 1) := rfl
theorem rd8_pre : ∀ {p : List Int} (c : Int) (y : List Int), (0 : Int) ∉ p → rd8 (p ++ c :: y) = (rd8 (c :: y)).map fun q => (p ++ q.1, q.2 + p.length)
  | [], c, y, _ => by
    show rd8 (c :: y) = _
    cases rd8 (c :: y) <;> rfl
  | a :: p, c, y, h => by
    rw [List.mem_cons, not_or] at h
    have ih := rd8_pre (p := p) c y h.2
    obtain ⟨d, z, hz⟩ : ∃ d z, p ++ c :: y = d :: z := by cases p <;> exact ⟨_, _, rfl⟩
    rw [List.cons_append, hz]
    rw [rd8_cc, if_neg (fun q => h.1 q.symm), ← hz, ih]
    cases rd8 (c :: y) <;> simp [Nat.add_assoc]
def RdP (objs : List AO) (g : DG) (r : Rs) : Prop :=
  ∃ w O', r = (cellD g w, some (O', objs.length)) ∧ Old objs O' ∧ (demote w = w ∧ oneCell w = true ∧ isDef w = true ∧ cellsOf w = [w]) ∧ rowH O' w (g.t.getD []) ∧ ∀ id, idOf w = some id → objs.length ≤ id
def p_RdBytes : List V → List AO → Rs → Prop := fun args objs r => match args with | [v] => ∀ b, ofInts .u8 v = some b → RdP objs (rdT (rd8 b)) r | _ => False
noncomputable def k_RdBytes : Ab.Spec := relF (fun a o r => p_RdBytes a o r ∧ EndsW Tryd.prog (annOf [] [8,35,55] [] true []) T_RdNum 65 Tryd.f65 a o r)
noncomputable def T_RdBytes : CallF := withF T_RdNum 65 k_RdBytes
theorem T_RdBytes_ok : CallOk Tryd.prog T_RdBytes := con_ofW (A := annOf [] [8,35,55] [] true []) fit T_RdNum_ok (fn := Tryd.f65) (by kernel_rfl) (by kernel_rfl) (fun args objs r h0 => (relF_inv h0).2)
theorem s_RdBytes  {objs : List AO} {v : V} {b : List Int} (hb : ofInts .u8 v = some b) (h8 : b8 b = true) (hbl : b.length < 140737488353000) : ∃ r, k_RdBytes [v] objs = some r ∧ p_RdBytes [v] objs r := by
  have c_IndexByte : ∀ a o, T_RdNum 64 a o = k_IndexByte a o := fun _ _ => rfl
  refine rel_goT _ rfl rfl ?_
  have hB := b8_iff.1 h8
  obtain ⟨vd, vn, vi, -⟩ := bs hb
  have goal : ∀ r, RdP objs (rdT (rd8 b)) r → (match ([v] : List V) with | [v] => ∀ b, ofInts .u8 v = some b → RdP objs (rdT (rd8 b)) r | _ => False) := fun r h b' h1 => by
    rw [hb] at h1; cases h1; exact h
  have nlo : ∀ m, ¬ objs.length + m < objs.length := fun m => by omega
  simp -implicitDefEqProofs (disch := omega) [vd, blit0]
  obtain ⟨I, hI⟩ : ∃ I : Nat → St → Prop, I = (fun (i : Nat) (z : St) => ∃ (a ver : Nat) (out : List Int), i ≤ a ∧ a ≤ b.length ∧ out.length ≤ a ∧ rd8 b = (rd8 (b.drop a)).map (fun q => (out ++ q.1, q.2 + a)) ∧ z.env 0 = v ∧ z.env 2 = .ptr objs.length 0 0 ∧ z.env 5 = .ref (objs.length + 1) ver 0 out.length 1 ∧ z.env 6 = .int .i64 a ∧ z.toks = [] ∧ z.low = objs.length ∧ z.objs = objs ++ [.cells [.bool false, .int .i64 0, .nils] 0, .cells (ints .u8 out) ver]) := ⟨_, rfl⟩
  refine .up b.length I (by rw [hI]; exact ⟨0, 0, [], by omega, by omega, by simp, by cases h : rd8 b <;> simp [h], by simp, by simp, by simp, by simp, rfl, rfl, by simp [ints_nil]⟩) ?_
  intro i z hi hz
  rw [hI] at hz
  obtain ⟨a, ver, out, hia, hab, hol, hrd, e0, e2, e5, e6, ht, hlo, ho⟩ := hz
  obtain ⟨O, hO⟩ : ∃ O, O = objs ++ [.cells [.bool false, .int .i64 0, .nils] 0, .cells (ints .u8 out) ver] := ⟨_, rfl⟩
  have b1 : Ab.getObj O objs.length 0 = some [.bool false, .int .i64 0, .nils] := by rw [hO]; simp
  have b2 : Ab.getObj O (objs.length + 1) ver = some (ints .u8 out) := by rw [hO]; simp
  have hOs : ∀ X, O.set objs.length X = objs ++ [X, .cells (ints .u8 out) ver] := fun X => by rw [hO]; simp
  have hOt : ∀ X, O.set (objs.length + 1) X = objs ++ [.cells [.bool false, .int .i64 0, .nils] 0, X] := fun X => by rw [hO]; simp
  rw [← hO] at ho
  have bad : ∀ X : AO, rd8 b = none → RdP objs (rdT (rd8 b)) (.tup [.agg [.bool false, .int .i64 0, .nils], .int .i64 0, .bool false], some (objs ++ [.cells [.bool false, .int .i64 0, .nils] 0, X], objs.length)) := fun X h => by
    rw [h]
    exact ⟨.nils, _, rfl, Old.ext _ _, ⟨rfl, rfl, rfl, rfl⟩, .inl ⟨rfl, rfl⟩, fun id q => by cases q⟩
  rcases Nat.lt_or_ge a b.length with h | h
  case inr =>
    have hn : rd8 b = none := by rw [hrd, List.drop_of_length_le h]; rfl
    have h' : ¬ a < b.length := by omega
    simp -implicitDefEqProofs (disch := omega) [e0, e2, e5, e6, ht, ho, hlo, vn, h', fitC0, b1, hOs, setCells]
    exact goal _ (bad _ hn)
  obtain ⟨c1, cv1, co1, -, cd1, ct1⟩ := told_cut hb (some (.int .i64 a)) none a b.length (by simp [boundV]) (by simp [boundV]) hab (Nat.le_refl _)
  rw [List.take_length] at co1
  obtain ⟨s, hs⟩ : ∃ s, s = b.drop a := ⟨_, rfl⟩
  rw [← hs] at co1 hrd
  have hsl : s.length = b.length - a := by rw [hs]; simp
  have hbs : b = b.take a ++ s := by rw [hs, List.take_append_drop]
  have co2 := fun O => ofIntsR_of (objs := O) co1
  rcases idx_split (l := s) (fun c hc => hB c (by rw [hbs]; exact List.mem_append_right _ hc)) with ⟨hix, h0⟩ | ⟨p, r, hpr, hp0, hix⟩
  · have hn : rd8 b = none := by rw [hrd, rd8_none h0]; rfl
    simp -implicitDefEqProofs (disch := omega) [e0, e2, e5, e6, ht, ho, hlo, vn, h, cv1, cd1, c_IndexByte, k_IndexByte, co2, hix, fitC0, b1, hOs, setCells]
    exact goal _ (bad _ hn)
  have hpl : s.length = p.length + r.length + 1 := by rw [hpr]; simp; omega
  have hpn : ¬ ((p.length : Int) < 0) := by omega
  rw [hpr, rd8_pre 0 r hp0] at hrd
  cases r with
  | nil =>
    have hn : rd8 b = none := by rw [hrd]; rfl
    have q1 : (b.length : Int) ≤ (a : Int) + p.length + 1 := by simp at hpl; omega
    simp -implicitDefEqProofs (disch := omega) [e0, e2, e5, e6, ht, ho, hlo, vn, h, cv1, cd1, c_IndexByte, k_IndexByte, co2, hix, hpn, q1, fitC0, b1, hOs, setCells, wrap_small]
    exact goal _ (bad _ hn)
  | cons d r =>
    simp only [List.length_cons] at hpl
    have q1 : ¬ ((b.length : Int) ≤ (a : Int) + p.length + 1) := by omega
    obtain ⟨c2, cv2, co3, -, cd2, ct2⟩ := told_cut hb (some (.int .i64 a)) (some (.int .i64 (a + p.length : Nat))) a (a + p.length) (by simp [boundV]) (by simp [boundV]; omega) (by omega) (by omega)
    have hcut : (b.take (a + p.length)).drop a = p := by
      rw [List.drop_take, ← hs, hpr, show a + p.length - a = p.length by omega, List.take_left]
    rw [hcut] at co3
    have hap : ((a + p.length : Nat) : Int) = (a : Int) + (p.length : Int) := by omega
    rw [hap] at cv2
    obtain ⟨-, -, -, s2, -⟩ := bs co3
    have ix := vi .i64 ((a : Int) + (p.length + 2) - 1) (by omega) (by omega)
    have hidx : ((a : Int) + (p.length + 2) - 1).toNat = a + p.length + 1 := by omega
    rw [hidx] at ix
    have g := ints_nth (k := .u8) (l := b) (i := a + p.length + 1) (by omega)
    have hd : nth b (a + p.length + 1) = d := by
      rw [nth_lt (by omega)]
      have e : b[a + p.length + 1]? = some d := by
        rw [hbs, hpr, List.getElem?_append_right (by simp; omega)]
        rw [List.length_take, Nat.min_eq_left hab, show a + p.length + 1 - a = p.length + 1 by omega, List.getElem?_append_right (by omega)]
        simp
      exact of_get e _
    rw [hd] at g
    have hst : ints .u8 out ++ ints .u8 p = ints .u8 (out ++ p) := by simp [ints]
    have hdB : 0 ≤ d ∧ d < 256 := hB d (by rw [hbs, hpr]; simp)
    have w1 : IntKind.i64.wrap ((p.length : Int) + 2) = (p.length : Int) + 2 := wrap_small (by omega) (by omega)
    have w2 : IntKind.i64.wrap ((a : Int) + (p.length + 2)) = (a : Int) + (p.length + 2) := wrap_small (by omega) (by omega)
    have w3 : IntKind.i64.wrap ((a : Int) + (p.length + 2) - 1) = (a : Int) + (p.length + 2) - 1 := wrap_small (by omega) (by omega)
    have w4 : IntKind.i64.wrap ((a : Int) + p.length) = (a : Int) + p.length := wrap_small (by omega) (by omega)
    have w5 : IntKind.i64.wrap ((a : Int) + p.length + 1) = (a : Int) + p.length + 1 := wrap_small (by omega) (by omega)
    by_cases d0 : d = 0
    · subst d0
      have hr : rd8 b = some (out ++ p, p.length + 2 + a) := by rw [hrd, rd8_cc]; simp [Nat.add_comm]
      have f3 := fitC3 (.ref (objs.length + 1) (ver + 1) 0 (out.length + p.length) 1) rfl rfl
      simp -implicitDefEqProofs (maxSteps := 1000000) (disch := omega) [e0, e2, e5, e6, ht, ho, hlo, vn, h, cv1, cd1, c_IndexByte, k_IndexByte, co2, hix, hpn, q1, cv2, cd2, s2, b2, nlo, hOt, hst, ix, g, w1, w2, w3, w4, w5, f3, setCells, Nat.mod_one]
      refine goal _ ?_
      rw [hr]
      have e1 : out.length + p.length = (out ++ p).length := by simp
      refine ⟨.ref (objs.length + 1) (ver + 1) 0 (out ++ p).length 1, objs ++ [.cells [.bool false, .int .i64 0, .ref (objs.length + 1) (ver + 1) 0 (out ++ p).length 1] 0, .cells (ints .u8 (out ++ p)) (ver + 1)], ?_, Old.ext _ _, ⟨rfl, rfl, rfl, rfl⟩, .inr ⟨objs.length + 1, ver + 1, rfl, ?_⟩, fun id q => by cases q; omega⟩
      case refine_2 => show Ab.getObj _ _ _ = some (ints .u8 (out ++ p)); simp
      rw [e1]
      unfold cellD rdT
      have e2 : (a : Int) + (p.length + 2) = ((p.length + 2 + a : Nat) : Int) := by omega
      rw [e2]
    · by_cases d1 : d = 255
      · subst d1
        simp -implicitDefEqProofs (maxSteps := 1000000) (disch := omega) [e0, e2, e5, e6, ht, ho, hlo, vn, h, cv1, cd1, c_IndexByte, k_IndexByte, co2, hix, hpn, q1, cv2, cd2, s2, b2, nlo, hOt, hst, ix, g, w1, w2, w3, w4, w5, blit1, setCells, Nat.mod_one]
        rw [hI]
        refine ⟨by omega, a + p.length + 2, ver + 1 + 1, out ++ p ++ [0], by omega, by omega, by simp; omega, ?_, by simp [e0], by simp [e2], by simp [Nat.add_assoc], by simp; omega, rfl, rfl, by simp⟩
        have e : b.drop (a + p.length + 2) = r := by
          rw [Nat.add_assoc, ← List.drop_drop, ← hs, hpr, ← List.drop_drop, List.drop_left]; rfl
        rw [e, hrd, rd8_cc]
        cases rd8 r with
        | none => rfl
        | some q => simp; omega
      · have hn : rd8 b = none := by rw [hrd, rd8_cc]; simp [d0, d1]
        simp -implicitDefEqProofs (maxSteps := 1000000) (disch := omega) [e0, e2, e5, e6, ht, ho, hlo, vn, h, cv1, cd1, c_IndexByte, k_IndexByte, co2, hix, hpn, q1, cv2, cd2, s2, b2, nlo, hOt, hst, ix, g, w1, w2, w3, w4, w5, d0, d1, fitC0, setCells, Nat.mod_one]
        exact goal _ (bad _ hn)

end Go.Proofs.YtiaihiccaoibgaaDoor.B
set_option maxRecDepth 20000
set_option maxHeartbeats 1000000
namespace Go.Proofs.YtiaihiccaoibgaaDoor.B
open Go Go.Ab
theorem rd7_none : ∀ {p : List Int}, (0 : Int) ∉ p → rd7 p = none
  | [], _ => rfl
  | a :: p, h => by
    rw [List.mem_cons, not_or] at h
    unfold rd7
    rw [if_neg (fun q => h.1 q.symm), rd7_none h.2]; rfl
theorem rd7_some : ∀ {p : List Int} (s : List Int), (0 : Int) ∉ p → rd7 (p ++ 0 :: s) = some (p, p.length + 1)
  | [], s, _ => rfl
  | a :: p, s, h => by
    rw [List.mem_cons, not_or] at h
    have ih := rd7_some (p := p) s h.2
    show (if a = 0 then some ([], 1) else (rd7 (p ++ 0 :: s)).map fun q => (a :: q.1, q.2 + 1)) = _
    rw [if_neg (fun q => h.1 q.symm), ih]; rfl
def p_Rd : List V → List AO → Rs → Prop := fun args objs r => match args with | [kv, v] => ∀ k b, kv = .int .i64 k → ofInts .u8 v = some b → RdP objs (rdG k b) r | _ => False
noncomputable def k_Rd : Ab.Spec := relF (fun a o r => p_Rd a o r ∧ EndsW Tryd.prog (annOf [] [] [(19, [.ref])] true [65]) T_RdBytes 45 Tryd.f45 a o r)
noncomputable def T_Rd : CallF := withF T_RdBytes 45 k_Rd
theorem T_Rd_ok : CallOk Tryd.prog T_Rd := con_ofW (A := annOf [] [] [(19, [.ref])] true [65]) fit T_RdBytes_ok (fn := Tryd.f45) (by kernel_rfl) (by kernel_rfl) (fun args objs r h0 => (relF_inv h0).2)
theorem s_Rd  {objs : List AO} {v : V} {b : List Int} {k : Int} (hb : ofInts .u8 v = some b) (h8 : b8 b = true) (hbl : b.length < 140737488353000) (k1 : 1 ≤ k) (k8 : k ≤ 8) : ∃ r, k_Rd [.int .i64 k, v] objs = some r ∧ p_Rd [.int .i64 k, v] objs r := by
  have c_IndexByte : ∀ a o, T_RdBytes 64 a o = k_IndexByte a o := fun _ _ => rfl
  have c_CloneR : ∀ a o, T_RdBytes 47 a o = k_CloneR a o := fun _ _ => rfl
  have c_RdBytes : ∀ a o, T_RdBytes 65 a o = k_RdBytes a o := fun _ _ => rfl
  have c_RdNum : ∀ a o, T_RdBytes 66 a o = k_RdNum a o := fun _ _ => rfl
  refine rel_goT _ rfl rfl ?_
  have hB := b8_iff.1 h8
  obtain ⟨vd, vn, vi, -⟩ := bs hb
  have goal : ∀ r, RdP objs (rdG k b) r → (match ([.int .i64 k, v] : List V) with | [kv, v] => ∀ k b, kv = .int .i64 k → ofInts .u8 v = some b → RdP objs (rdG k b) r | _ => False) := fun r h k' b' h1 h2 => by
    cases h1; rw [hb] at h2; cases h2; exact h
  obtain ⟨O, hO⟩ : ∃ O, O = objs ++ [AO.cells [.bool false, .int .i64 0, .nils] 0] := ⟨_, rfl⟩
  have b1 : Ab.getObj O objs.length 0 = some [.bool false, .int .i64 0, .nils] := by rw [hO]; simp
  have hOl : O.length = objs.length + 1 := by rw [hO]; simp
  have hold : Old objs O := by rw [hO]; exact Old.ext _ _
  have hOn : ¬ O.length < objs.length := by omega
  have hOs : ∀ X, O.set objs.length X = objs ++ [X] := fun X => by rw [hO]; simp
  have cO := fun M => ofIntsR_of (objs := M) hb
  simp -implicitDefEqProofs (disch := omega) []
  rw [← hO]
  by_cases k7 : k = 7
  · subst k7
    have hG : rdG 7 b = rdT (rd7 b) := by unfold rdG; rw [if_neg (by decide), if_pos rfl]
    rw [hG] at goal
    rcases idx_split (l := b) hB with ⟨hix, h0⟩ | ⟨p, s, hps, hp0, hix⟩
    · have hn := rd7_none h0
      simp -implicitDefEqProofs (disch := omega) [vd, c_IndexByte, k_IndexByte, cO, hix, fitC0, b1, hOs, setCells]
      exact goal _ (by rw [hn]; exact ⟨.nils, _, rfl, Old.ext _ _, ⟨rfl, rfl, rfl, rfl⟩, .inl ⟨rfl, rfl⟩, fun id q => by cases q⟩)
    · have hr : rd7 b = some (p, p.length + 1) := by rw [hps]; exact rd7_some s hp0
      have hbl2 : b.length = p.length + s.length + 1 := by rw [hps]; simp; omega
      have hpn : ¬ ((p.length : Int) < 0) := by omega
      obtain ⟨c, cv, co, cn, cd, ct⟩ := told_cut hb none (some (.int .i64 p.length)) 0 p.length rfl (by simp [boundV]) (by omega) (by omega)
      rw [List.drop_zero, hps, List.take_left] at co
      have hvn : isNils v = false := by
        cases hv : isNils v with
        | false => rfl
        | true =>
          have : v = .nils := by cases v <;> first | rfl | (cases hv; done)
          rw [this] at hb; cases hb; simp at hbl2
      rw [hvn] at cn
      have co2 := fun M => ofIntsR_of (objs := M) co
      have f3 := fitC3 (.ref O.length 0 0 p.length 1) rfl rfl
      have c4 : ∀ X, Ab.getObj (O ++ X) objs.length 0 = some [.bool false, .int .i64 0, .nils] := fun X => by rw [getObj_app (by omega)]; exact b1
      have hOs2 : ∀ X Y, (O ++ [Y]).set objs.length X = objs ++ [X, Y] := fun X Y => by rw [hO]; simp
      simp -implicitDefEqProofs (disch := omega) [vd, c_IndexByte, k_IndexByte, cO, hix, hpn, cv, cd, c_CloneR, k_CloneR, co2, cn, f3, c4, hOs2, setCells, wrap_small]
      refine goal _ ?_
      rw [hr]
      refine ⟨.ref O.length 0 0 p.length 1, objs ++ [.cells [.bool false, .int .i64 0, .ref O.length 0 0 p.length 1] 0, .cells (ints .u8 p) 0], ?_, Old.ext _ _, ⟨rfl, rfl, rfl, rfl⟩, .inr ⟨O.length, 0, rfl, ?_⟩, fun id q => by cases q; omega⟩
      · unfold cellD rdT
        have e2 : (p.length : Int) + 1 = ((p.length + 1 : Nat) : Int) := by omega
        rw [e2]
      · show Ab.getObj _ _ _ = some (ints .u8 p)
        rw [hOl]; simp
  by_cases k8' : k = 8
  · subst k8'
    have hG : rdG 8 b = rdT (rd8 b) := by unfold rdG; rw [if_neg (by decide), if_neg (by decide)]
    rw [hG] at goal
    obtain ⟨r, kk, hP⟩ := s_RdBytes (objs := O) hb h8 hbl
    obtain ⟨w, O2, rfl, hold2, ⟨w1, w2, w3, w4⟩, hrow, hid⟩ := hP _ hb
    obtain ⟨g, hg⟩ : ∃ g, g = rdT (rd8 b) := ⟨_, rfl⟩
    rw [← hg] at kk hrow goal
    have hO2l := hold2.1
    have hO2n : ¬ O.length < objs.length := by omega
    have c2 : Ab.getObj O2 objs.length 0 = some [.bool false, .int .i64 0, .nils] := by rw [hold2.2 _ _ (by omega)]; exact b1
    have c3 : ∀ y : List V, Ab.getObj (O2.set objs.length (.cells y 0)) objs.length 0 = some y := fun y => getObj_set (by omega)
    unfold cellD at kk
    simp -implicitDefEqProofs (disch := omega) [vd, c_RdBytes, kk, hO2n, w1, w2, w3, w4, c2, c3, setCells]
    refine goal _ ⟨w, _, rfl, Old.set (hold.trans hold2) (by omega), ⟨w1, w2, w3, w4⟩, hrow.same fun id ver e => by rw [getObj_set_ne (by have := hid id e; omega)], fun id e => by have := hid id e; omega⟩
  have k6 : k ≤ 6 := by omega
  have kk : ∀ M, k_RdNum [.int .i64 k, v] M = some (cellD (rdG k b) .nils, none) := fun M => by simp (disch := omega) [k_RdNum, hb, h8, k1, k6]
  have hgt : (rdG k b).t.getD [] = [] := by
    unfold rdG
    rw [if_pos k6]
    split <;> rfl
  obtain ⟨g, hg⟩ : ∃ g, g = rdG k b := ⟨_, rfl⟩
  rw [← hg] at kk goal hgt
  unfold cellD at kk
  simp -implicitDefEqProofs (disch := omega) [vd, k7, k8', c_RdNum, kk, b1, hOs, setCells]
  exact goal _ ⟨.nils, _, rfl, Old.ext _ _, ⟨rfl, rfl, rfl, rfl⟩, .inl ⟨rfl, hgt⟩, fun id q => by cases q⟩

end Go.Proofs.YtiaihiccaoibgaaDoor.B
set_option maxRecDepth 20000
set_option maxHeartbeats 1000000
namespace Go.Proofs.YtiaihiccaoibgaaDoor.B
open Go Go.Ab
/-! rows told anew, each text in an object of its own -/
structure Fresh (objs objs' : List AO) (xv : V) (want : List (Bool × Int × List Int)) : Prop where
  rows : ∃ out, rowR objs' xv = some out ∧ out.map (Ce.t objs') = want ∧ Held objs' (out.map (·.v)) (want.map fun p => p.2.2) ∧ ∀ v ∈ out.map (·.v), ∀ id, idOf v = some id → objs.length ≤ id
theorem rowH_old {objs O : List AO} {v : V} {l : List Int} (h : rowH objs v l) (ho : Old objs O) : rowH O v l := by
  rcases h with h | ⟨id, ver, rfl, h⟩
  · exact .inl h
  · exact .inr ⟨id, ver, rfl, by rw [ho.2 _ _ (getObj_lt h)]; exact h⟩
structure PartL (objs O : List AO) (W R : List Ce) : Prop where
  le : R.length ≤ W.length
  done : ∀ j, j < R.length → (nth R j).n = (nth W j).n ∧ (nth R j).i = (nth W j).i ∧ ceOk objs (nth W j) = true ∧ rowH O (nth R j).v ((nth W j).b objs) ∧ ∀ k, idOf (nth R j).v = some k → objs.length ≤ k
  apart : ∀ j k, j < k → k < R.length → ∀ x, idOf (nth R j).v = some x → idOf (nth R k).v ≠ some x
theorem PartL.t {objs O : List AO} {W R : List Ce} (h : PartL objs O W R) (hl : R.length = W.length) : R.map (Ce.t O) = W.map (Ce.t objs) := by
  refine ext_nth (by simp [hl]) fun j hj => ?_
  rw [List.length_map] at hj
  rw [nth_map hj, nth_map (by omega)]
  obtain ⟨d1, d2, d0, d3, -⟩ := h.done j (by omega)
  unfold Ce.t
  rw [d1, d2]
  have := d3.bytes
  unfold Ce.b at this ⊢
  rw [this]; rfl
theorem PartL.ok {objs O : List AO} {W R : List Ce} (h : PartL objs O W R) : ∀ x ∈ R, ceOk O x = true := fun x hx => by
  obtain ⟨j, hj, rfl⟩ := List.getElem_of_mem hx
  rw [← nth_lt hj]
  obtain ⟨d1, d2, d0, d3, -⟩ := h.done j hj
  obtain ⟨k1, k2, k3, k4⟩ := ceOk_inv d0
  exact (ceOk_of (by rw [d2]; exact k1) d3.bytes k3 k4).1
theorem PartL.held {objs O : List AO} {W R : List Ce} (h : PartL objs O W R) (hl : R.length = W.length) : Held O (R.map (·.v)) ((W.map (Ce.t objs)).map fun p => p.2.2) := by
  rw [List.map_map]
  refine ⟨by simp [hl], fun j hj => ?_, fun j k v1 w1 y hjk h1 h2 e1 => ?_⟩
  · rw [List.length_map] at hj
    obtain ⟨-, -, -, d3, -⟩ := h.done j (by omega)
    exact ⟨(nth R j).v, by rw [List.getElem?_map, get_nth (by omega)]; rfl, by rw [nth_map hj]; exact d3⟩
  · have hk : k < R.length := by
      rcases Nat.lt_or_ge k R.length with q | q
      · exact q
      · rw [List.getElem?_eq_none (by simpa using q)] at h2; cases h2
    rw [List.getElem?_map, get_nth (by omega)] at h1 h2
    cases h1; cases h2
    exact h.apart j k hjk (by omega) y e1
theorem PartL.ids {objs O : List AO} {W R : List Ce} (h : PartL objs O W R) : ∀ v ∈ R.map (·.v), ∀ id, idOf v = some id → objs.length ≤ id := by
  intro v1 hv1 id e
  obtain ⟨x, hx, rfl⟩ := List.mem_map.1 hv1
  obtain ⟨j, hj, rfl⟩ := List.getElem_of_mem hx
  rw [← nth_lt hj] at e
  exact (h.done j hj).2.2.2.2 id e
theorem PartL.nil {objs O : List AO} {W : List Ce} : PartL objs O W [] := ⟨Nat.zero_le _, fun j hj => absurd hj (by simp), fun j k _ hk => absurd hk (by simp)⟩
theorem PartL.fresh {objs O : List AO} {W R : List Ce} (h : PartL objs O W R) (hl : R.length = W.length) {n : Nat} (hn : n = R.length) : Fresh objs O (.lst .frozen (flatV ceV R) n) (W.map (Ce.t objs)) := by
  subst hn
  exact ⟨R, recR_lst ceV_len fun x hx => ceD_ok.2 (h.ok x hx), h.t hl, h.held hl, h.ids⟩
/-- One more, in an object behind all. -/
theorem PartL.snoc {objs O O' : List AO} {W R : List Ce} (h : PartL objs O W R) (ho : Old O O') (hoo : Old objs O) {x y : Ce} (hW : W[R.length]? = some y) (hk : ceOk objs y = true) (h1 : x.n = y.n) (h2 : x.i = y.i) (h3 : rowH O' x.v (y.b objs)) (h4 : ∀ k, idOf x.v = some k → O.length ≤ k) : PartL objs O' W (R ++ [x]) := by
  have hlt : R.length < W.length := by
    rcases Nat.lt_or_ge R.length W.length with q | q
    · exact q
    · rw [List.getElem?_eq_none q] at hW; cases hW
  have hy : nth W R.length = y := by unfold nth; rw [List.getD_eq_getElem?_getD, hW]; rfl
  have e1 : ∀ j, j < R.length → nth (R ++ [x]) j = nth R j := fun j hj => nth_app_l hj
  have e2 : nth (R ++ [x]) R.length = x := by rw [nth_app_r (Nat.le_refl _), Nat.sub_self]; rfl
  refine ⟨by simp; omega, fun j hj => ?_, fun j k hjk hk2 z => ?_⟩
  · rw [List.length_append, List.length_singleton] at hj
    rcases Nat.lt_or_ge j R.length with q | q
    · rw [e1 j q]
      obtain ⟨d1, d2, d0, d3, d4⟩ := h.done j q
      exact ⟨d1, d2, d0, rowH_old d3 ho, d4⟩
    · obtain rfl : j = R.length := by omega
      rw [e2, hy]
      exact ⟨h1, h2, hk, h3, fun k hk => by have := h4 k hk; have := hoo.1; omega⟩
  · rw [List.length_append, List.length_singleton] at hk2
    rcases Nat.lt_or_ge k R.length with q | q
    · rw [e1 j (by omega), e1 k q]; exact h.apart j k hjk q z
    · obtain rfl : k = R.length := by omega
      rw [e1 j hjk, e2]
      intro f1 f2
      have := h4 z f2
      obtain ⟨-, -, -, d3, -⟩ := h.done j hjk
      rcases d3 with ⟨d3, -⟩ | ⟨id, ver, d3, d4⟩
      · rw [d3] at f1; cases f1
      · rw [d3] at f1; cases f1
        have := getObj_lt d4
        omega
theorem lens_200 : ∀ {ls : List (List Int)}, (∀ l ∈ ls, l.length ≤ 200) → lens ls ≤ 270 * ls.length
  | [], _ => by simp [lens]
  | a :: ls, h => by
    have h1 := h a (by simp)
    have ih := lens_200 (ls := ls) (fun l hl => h l (by simp [hl]))
    have : lens (a :: ls) = (a.length + 70) + lens ls := by simp [lens]
    rw [this, List.length_cons]; omega
theorem Fresh.nil {objs O : List AO} : Fresh objs O .nils [] := ⟨[], rfl, rfl, ⟨rfl, fun i h => absurd h (by simp), fun i j v w id _ h => by simp at h⟩, by simp⟩
/-- Rows told anew beside rows that are told: alike, and apart. -/
theorem fresh_law {objs O : List AO} {xv wv : V} {want : List (Bool × Int × List Int)} {Wn : List Ce} (hF : Fresh objs O xv want) (hw : ∀ O, rowR O wv = some Wn) (hww : ∀ O, Wn.map (Ce.t O) = want) (h200 : ∀ p ∈ want, p.2.2.length ≤ 200) (hn : want.length ≤ 1048576) :
    ∃ (X : List Ce) (O3 : List AO) (low : Nat), k_AlikeRow [xv, wv] O = some (.bool true, none) ∧ k_Texts [xv] O = some (.lst (.fresh 1 false) (X.map (·.v)) X.length, none) ∧ k_Texts [wv] O = some (.lst (.fresh 1 false) (Wn.map (·.v)) Wn.length, none) ∧
      k_ApartAll [.lst .frozen (X.map (·.v)) X.length, .lst .frozen (Wn.map (·.v)) Wn.length] O = some (.bool true, some (O3, low)) ∧ O3.length = O.length ∧ ∀ id ver, id < objs.length → Ab.getObj O3 id ver = Ab.getObj O id ver := by
  obtain ⟨X, h1, h2, h3, h4⟩ := hF.rows
  have hl1 : X.length = want.length := by have := congrArg List.length h2; simpa using this
  have hl2 : Wn.length = want.length := by have := congrArg List.length (hww O); simpa using this
  have hsum := lens_200 (ls := want.map fun p => p.2.2) (fun l hl => by
    obtain ⟨p, hp, rfl⟩ := List.mem_map.1 hl
    exact h200 p hp)
  rw [List.length_map] at hsum
  obtain ⟨r, k2, O4, low4, rfl, k3⟩ := s_ApartAll (objs := O) (v := .lst .frozen (X.map (·.v)) X.length) (w := .lst .frozen (Wn.map (·.v)) Wn.length) (vs := X.map (·.v)) (ws := Wn.map (·.v)) (ls := want.map fun p => p.2.2)
    (.inl (by rw [List.length_map, hl1])) (.inl (by rw [List.length_map, hl2])) (fun i hi => by
      rw [List.length_map] at hi
      have hiw : i < Wn.length := by omega
      refine ⟨(nth Wn i).v, by rw [List.getElem?_map, get_nth hiw]; rfl, ?_⟩
      have hk := (rowR_inv (hw [])).2 _ (nth_mem hiw)
      have hb := (ceOk_inv hk).2.1
      have e := hww []
      have e2 := nth_map (g := Ce.t []) hiw
      rw [e] at e2
      rw [nth_map (by omega), e2]
      show ofInts .u8 _ = some ((nth Wn i).b [])
      rcases ofIntsR_inv hb with h | ⟨id, ver, off, cs, -, hg, -⟩
      · exact h
      · simp [Ab.getObj] at hg) h3 (by omega)
  obtain ⟨m1, m2, m3⟩ := k3 (X.map (·.v)) _ (.inl (by rw [List.length_map, hl1])) h3
  refine ⟨X, O4, low4, ?_, ?_, ?_, k2, m1, fun id ver hid => m3 id ver fun v hv hq => ?_⟩
  · have he : X.map (Ce.t O) = Wn.map (Ce.t O) := by rw [h2, hww O]
    simp (disch := omega) [k_AlikeRow, h1, hw O, he]
  · simp (disch := omega) [k_Texts, h1]
  · simp (disch := omega) [k_Texts, hw O]
  · have := h4 v hv id hq
    omega

/-! whole keys read -/
theorem chk_kind {cols : List Co} {K : Int} (h : chkR cols K = 0) {i : Nat} (hl : i < cols.length) : 1 ≤ (nth cols i).k ∧ (nth cols i).k ≤ 8 := by
  have hs : schemaOk cols K = true := by
    unfold chkR at h; split at h
    · assumption
    · cases h
  unfold schemaOk at hs
  rw [Bool.and_eq_true, List.all_eq_true] at hs
  have := hs.2 i (List.mem_range.2 hl)
  unfold colOk at this
  simp only [Bool.and_eq_true, decide_eq_true_eq] at this
  exact this.1.1.2
def restD (cols : List Co) (b : List Int) : Nat → List Int
  | 0 => b
  | i + 1 => (restD cols b i).drop (rdG (nth cols i).k (restD cols b i)).n
def gD (cols : List Co) (b : List Int) (i : Nat) : DG := rdG (nth cols i).k (restD cols b i)
theorem restD_succ {cols : List Co} {b : List Int} {i : Nat} : restD cols b (i + 1) = (restD cols b i).drop (gD cols b i).n := rfl
def okD (cols : List Co) (b : List Int) (i : Nat) : Int := if (gD cols b i).ok = true then checkR (nth cols i).k false false (gD cols b i).i ((gD cols b i).t.getD []) else 1
def decE (cols : List Co) (K : Int) (b : List Int) : Int := if chkR cols K = 0 then (if firstE (okD cols b) K.toNat 0 = 0 ∧ restD cols b K.toNat = [] then 0 else 70) else chkR cols K
def cD (g : DG) : Ce := ⟨false, g.i, match g.t with | none => .nils | some l => .lst .frozen (ints .u8 l) l.length⟩
def rowD (cols : List Co) (b : List Int) (n : Nat) : List Ce := (List.range n).map fun i => cD (gD cols b i)
theorem rowD_len {cols : List Co} {b : List Int} {n : Nat} : (rowD cols b n).length = n := by simp [rowD]
theorem rowD_at {cols : List Co} {b : List Int} {n i : Nat} (h : i < n) : (rowD cols b n)[i]? = some (cD (gD cols b i)) := by simp [rowD, h]
theorem rowD_succ {cols : List Co} {b : List Int} {n : Nat} : rowD cols b (n + 1) = rowD cols b n ++ [cD (gD cols b n)] := by simp [rowD, List.range_succ]
theorem cD_ok {g : DG} {O : List AO} (h : i64B g.i = true ∧ ∀ l, g.t = some l → b8 l = true ∧ l.length < 140737488355000) : ceOk O (cD g) = true ∧ (cD g).b O = g.t.getD [] := by
  obtain ⟨h1, h2⟩ := h
  cases hb : g.t with
  | none => exact ceOk_of (x := cD g) h1 (by show ofIntsR .u8 O (match g.t with | none => _ | some l => _) = _; rw [hb]; rfl) rfl (by simp)
  | some l =>
    obtain ⟨h3, h4⟩ := h2 l hb
    exact ceOk_of (x := cD g) h1 (by show ofIntsR .u8 O (match g.t with | none => _ | some l => _) = _; rw [hb]; exact ofIntsR_of (ofInts_lst rfl)) h3 (show l.length < _ by omega)
theorem restD_ok {cols : List Co} {b : List Int} (h8 : b8 b = true) : ∀ i, b8 (restD cols b i) = true ∧ (restD cols b i).length ≤ b.length
  | 0 => ⟨h8, Nat.le_refl _⟩
  | i + 1 => by
    obtain ⟨h1, h2⟩ := restD_ok (cols := cols) h8 i
    refine ⟨b8_iff.2 fun c hc => b8_iff.1 h1 c (List.mem_of_mem_drop hc), ?_⟩
    rw [restD_succ, List.length_drop]; omega
theorem gD_ok {cols : List Co} {K : Int} {b : List Int} (hg : chkR cols K = 0) (h8 : b8 b = true) (hl : b.length < 140737488353000) {i : Nat} (hi : i < cols.length) : i64B (gD cols b i).i = true ∧ (gD cols b i).n ≤ (restD cols b i).length ∧ ∀ t, (gD cols b i).t = some t → b8 t = true ∧ t.length < 140737488355000 := by
  obtain ⟨r1, r2⟩ := restD_ok (cols := cols) h8 i
  obtain ⟨h1, h2, h3⟩ := rdG_ok (k := (nth cols i).k) (chk_kind hg hi).1 r1
  refine ⟨h1, h2, fun t ht => ?_⟩
  obtain ⟨h4, h5⟩ := h3 t ht
  have : (gD cols b i).n = (rdG (nth cols i).k (restD cols b i)).n := rfl
  exact ⟨h4, by omega⟩
def DecP (objs : List AO) (cols : List Co) (K : Int) (b : List Int) (r : Rs) : Prop :=
  ∃ xv objs', r = (.tup [xv, .int .i64 (decE cols K b)], some (objs', objs.length)) ∧ Old objs objs' ∧ demote xv = xv ∧ ntup xv = some xv ∧ (decE cols K b ≠ 0 → xv = .nils) ∧ (decE cols K b = 0 → Fresh objs objs' xv ((rowD cols b K.toNat).map (Ce.t objs)))
def p_Dec : List V → List AO → Rs → Prop := fun args objs r => match args with | [s, v] => ∀ cols K b, schD objs s = some (cols, K) → ofInts .u8 v = some b → DecP objs cols K b r | _ => False
noncomputable def k_Dec : Ab.Spec := relF (fun a o r => p_Dec a o r ∧ EndsW Tryd.prog (annOf [48] [] [] true [45]) T_Rd 17 Tryd.f17 a o r)
noncomputable def T_Dec : CallF := withF T_Rd 17 k_Dec
theorem T_Dec_ok : CallOk Tryd.prog T_Dec := con_ofW (A := annOf [48] [] [] true [45]) fit T_Rd_ok (fn := Tryd.f17) (by kernel_rfl) (by kernel_rfl) (fun args objs r h0 => (relF_inv h0).2)
theorem s_Dec  {objs : List AO} {s v : V} {cols : List Co} {K : Int} {b : List Int} (hsc : schD objs s = some (cols, K)) (hb : ofInts .u8 v = some b) (h8 : b8 b = true) (hbl : b.length < 140737488353000) : ∃ r, k_Dec [s, v] objs = some r ∧ p_Dec [s, v] objs r := by
  have c_schCheck : ∀ a o, T_Rd 39 a o = k_schCheck a o := fun _ _ => rfl
  have c_Rd : ∀ a o, T_Rd 45 a o = k_Rd a o := fun _ _ => rfl
  have c_cCheck : ∀ a o, T_Rd 40 a o = k_cCheck a o := fun _ _ => rfl
  refine rel_goT _ rfl rfl ?_
  obtain ⟨cv, rfl, hv, cd, vo, vf, vc, vn, vi, hc, hl⟩ := schF hsc
  obtain ⟨vd, -⟩ := bs hb
  obtain ⟨O0, hO0⟩ : ∃ O, O = objs ++ [.cells [cv, .int .i64 K] 0] := ⟨_, rfl⟩
  have hold0 : Old objs O0 := by rw [hO0]; exact Old.ext _ _
  have b1 : Ab.getObj O0 objs.length 0 = some [cv, .int .i64 K] := by rw [hO0]; simp
  have s1 := (k_sch (schD_old hsc hold0)).1
  have goal : ∀ r, DecP objs cols K b r → (match ([.agg [cv, .int .i64 K], v] : List V) with | [s, v] => ∀ cols K b, schD objs s = some (cols, K) → ofInts .u8 v = some b → DecP objs cols K b r | _ => False) := fun r h cols' K' b' h1 h2 => by
    rw [hsc] at h1; rw [hb] at h2
    cases h1; cases h2
    exact h
  simp -implicitDefEqProofs (disch := omega) [cd]
  rw [← hO0]
  by_cases hg : chkR cols K = 0
  case neg =>
    have hE : decE cols K b = chkR cols K := if_neg hg
    obtain ⟨E, hEE⟩ : ∃ E, E = chkR cols K := ⟨_, rfl⟩
    rw [← hEE] at hg hE s1
    have hz2 : (E != 0) = true := by simpa using hg
    simp -implicitDefEqProofs (disch := omega) [b1, cd, c_schCheck, s1, hg, hz2]
    exact goal _ ⟨.nils, _, by rw [hE], hold0, rfl, rfl, fun _ => rfl, fun q => absurd (hE ▸ q) hg⟩
  have hE0 : decE cols K b = if firstE (okD cols b) K.toNat 0 = 0 ∧ restD cols b K.toNat = [] then 0 else 70 := if_pos hg
  obtain ⟨p1, p2, p3, p4, p5⟩ := chk_pos hg
  obtain ⟨n, rfl⟩ := Int.eq_ofNat_of_zero_le (show 0 ≤ K by omega)
  rw [Int.toNat_natCast] at hE0
  rw [hg] at s1
  obtain ⟨u, cu, hu⟩ := hv.cut (P := Tryd.prog) u22 z68 none (some (.int .i64 (n : Int))) 0 n rfl (by simp [boundV]) (by omega) (by omega)
  have ef : ((flatV coV cols).take (n * 3)).drop (0 * 3) = flatV coV (cols.take n) := by rw [Nat.zero_mul, List.drop_zero, flatV_take coV_len]
  have el : n - 0 = (cols.take n).length := by rw [List.length_take]; omega
  rw [ef, el] at hu
  have hcl : (cols.take n).length = n := by rw [List.length_take]; omega
  have ud := hu.dem
  have un := hu.size (P := Tryd.prog) u22
  rw [hcl] at un
  simp -implicitDefEqProofs (disch := omega) [b1, cd, c_schCheck, s1, cu, ud, un]
  obtain ⟨W, hW⟩ : ∃ W, W = rowD cols b n := ⟨_, rfl⟩
  have hWl : W.length = n := by rw [hW, rowD_len]
  obtain ⟨I, hI⟩ : ∃ I : Nat → St → Prop, I = (fun (i : Nat) (z : St) => (∃ w, z.env 1 = w ∧ demote w = w ∧ ofInts .u8 w = some (restD cols b i)) ∧ z.env 22 = u ∧ z.env 23 = .int .i64 n ∧ z.env 24 = .int .i64 i ∧ z.low = objs.length ∧ Old objs z.objs ∧ (∀ j, j < i → okD cols b j = 0) ∧ ∃ R, (i = 0 ∧ z.env 7 = .nils ∧ z.toks = [] ∨ 0 < i ∧ z.env 7 = .lst (.tok 0 3) (flatV ceV R) i ∧ z.toks = [i * 3]) ∧ R.length = i ∧ PartL objs z.objs W R) := ⟨_, rfl⟩
  refine .up n I (by rw [hI]; exact ⟨⟨v, by simp, vd, hb⟩, by simp, by simp, by simp, rfl, hold0, fun j hj => absurd hj (by omega), [], .inl ⟨rfl, by simp, rfl⟩, rfl, .nil⟩) ?_
  intro i z hi hz2
  rw [hI] at hz2
  obtain ⟨⟨w, e1, wd, hw⟩, e22, e23, e24, hlo, hold, hpre, R, h7, hRl, hP⟩ := hz2
  obtain ⟨O, ho⟩ : ∃ O, O = z.objs := ⟨_, rfl⟩
  rw [← ho] at hold hP
  have ho := ho.symm
  have hfl : (flatV ceV R).length = i * 3 := by rw [flatV_len ceV_len, hRl]
  obtain ⟨-, wn, -⟩ := bs hw
  obtain ⟨r8, rl⟩ := restD_ok (cols := cols) h8 i
  rcases Nat.lt_or_ge i n with h | h
  case inr =>
    obtain rfl : i = n := by omega
    rcases h7 with ⟨h7, -⟩ | ⟨-, e7, ht⟩
    · omega
    have hF : firstE (okD cols b) i 0 = 0 := firstE_none fun j _ hj => hpre j (by omega)
    by_cases hr : restD cols b i = []
    · have hE1 : decE cols i b = 0 := by rw [hE0, if_pos ⟨hF, hr⟩]
      rw [hr] at wn
      have wn0 : lenV Tryd.prog 28 w = some (.int .i64 0) := wn
      simp -implicitDefEqProofs (disch := omega) [e1, e22, e23, e24, e7, ht, ho, hlo, wn0]
      exact goal _ ⟨_, _, by rw [hE1], hold, rfl, rfl, fun q => absurd hE1 q, fun _ => by rw [Int.toNat_natCast, ← hW]; exact hP.fresh (by omega) (by omega)⟩
    · have hE1 : decE cols i b = 70 := by rw [hE0, if_neg fun q => hr q.2]
      have hpos : 0 < (restD cols b i).length := List.length_pos_iff.2 hr
      simp -implicitDefEqProofs (disch := omega) [e1, e22, e23, e24, e7, ht, ho, hlo, wn, hpos]
      exact goal _ ⟨.nils, _, by rw [hE1], hold, rfl, rfl, fun _ => rfl, fun q => by rw [hE1] at q; cases q⟩
  have ix := hu.idx (P := Tryd.prog) u22 z68 .i64 i (by omega) (by rw [hcl]; omega)
  rw [Int.toNat_natCast] at ix
  obtain ⟨g1, -⟩ := col_get (hu.old hold) (i := i) (by rw [hcl]; exact h)
  rw [nth_take h] at g1
  have hk := chk_kind hg (i := i) (by omega)
  have hgd := gD_ok hg h8 hbl (i := i) (by omega)
  have hok : okD cols b i = if (gD cols b i).ok = true then checkR (nth cols i).k false false (gD cols b i).i ((gD cols b i).t.getD []) else 1 := rfl
  obtain ⟨C, hC⟩ : ∃ C, C = nth cols i := ⟨_, rfl⟩
  have hge : gD cols b i = rdG C.k (restD cols b i) := by rw [hC]; rfl
  rw [← hC] at g1 hk hok
  obtain ⟨nm, k, nl⟩ := C
  simp only at hge hk hok
  obtain ⟨O2, hO2⟩ : ∃ O2, O2 = O ++ [.cells [.str nm, .int .i64 k, .bool nl] 0] := ⟨_, rfl⟩
  have hO2l : O2.length = O.length + 1 := by rw [hO2]; simp
  have hOO2 : Old O O2 := by rw [hO2]; exact Old.ext _ _
  have bx : Ab.getObj O2 O.length 0 = some [.str nm, .int .i64 k, .bool nl] := by rw [hO2]; simp
  obtain ⟨r, k1, hGP⟩ := s_Rd (objs := O2) (k := k) hw r8 (by omega) hk.1 hk.2
  obtain ⟨x, O3, rfl, hold3, ⟨w1, w2, w3, w4⟩, hrow, hid⟩ := hGP _ _ rfl hw
  have hE70 : okD cols b i ≠ 0 → decE cols n b = 70 := fun q => by
    rw [hE0, if_neg]
    rintro ⟨q2, -⟩
    exact q (firstE_zero q2 i (Nat.zero_le _) (by omega))
  have hrs : restD cols b (i + 1) = (restD cols b i).drop (gD cols b i).n := restD_succ
  obtain ⟨g, hgg⟩ : ∃ g, g = rdG k (restD cols b i) := ⟨_, rfl⟩
  rw [← hgg] at k1 hrow hge
  rw [hge] at hok hgd hrs
  unfold cellD at k1
  obtain ⟨gi, gn, gt⟩ := hgd
  obtain ⟨O4, hO4⟩ : ∃ O4, O4 = O3 ++ [.cells [.bool false, .int .i64 g.i, x] 0] := ⟨_, rfl⟩
  have b4 : Ab.getObj O4 O3.length 0 = some [.bool false, .int .i64 g.i, x] := by rw [hO4]; simp
  have hO34 : Old O3 O4 := by rw [hO4]; exact Old.ext _ _
  have hO24 : Old O2 O4 := hold3.trans hO34
  have bx4 : Ab.getObj O4 O.length 0 = some [.str nm, .int .i64 k, .bool nl] := by rw [hO24.2 _ _ (by omega)]; exact bx
  have hOO4 : Old O O4 := hOO2.trans hO24
  have hold4 : Old objs O4 := hold.trans hOO4
  have hO2' : O ++ [.cells [.str nm, .int .i64 k, .bool nl] 0] = O2 := hO2.symm
  have hO4' : O3 ++ [.cells [.bool false, .int .i64 g.i, x] 0] = O4 := hO4.symm
  have n1 : ¬ O.length < objs.length := by have := hold.1; omega
  have n2 : ¬ O2.length < objs.length := by omega
  have n3 : ¬ O3.length < objs.length := by have := hold3.1; omega
  have hrow4 := rowH_old hrow hO34
  have xb := hrow4.bytes
  obtain ⟨y1, y2⟩ := cD_ok (g := g) (O := objs) ⟨gi, gt⟩
  obtain ⟨z1, z2, z3, z4⟩ := ceOk_inv y1
  rw [y2] at z3 z4
  obtain ⟨T, hT⟩ : ∃ T, T = g.t.getD [] := ⟨_, rfl⟩
  rw [← hT] at z3 z4 hok xb hrow4 y2
  simp only [coV] at g1
  cases hgo : g.ok with
  | false =>
    rw [hgo, if_neg (by simp)] at hok
    rw [hgo] at k1
    have hE1 := hE70 (by rw [hok]; decide)
    have fin := goal (.tup [.nils, .int .i64 70], some (O4, objs.length)) ⟨.nils, _, by rw [hE1], hold4, rfl, rfl, fun _ => rfl, fun q => by rw [hE1] at q; cases q⟩
    rcases h7 with ⟨h7, e7, ht⟩ | ⟨h7, e7, ht⟩
    · simp -implicitDefEqProofs (disch := omega) [e1, e22, e23, e24, e7, ht, ho, hlo, h, ix, g1, coV, setCells, n1, n2, n3, hO2', bx, wd, c_Rd, k1, w1, w2, w3, w4, hO4', b4, bx4]
      exact fin
    · simp -implicitDefEqProofs (disch := omega) [e1, e22, e23, e24, e7, ht, ho, hlo, h, ix, g1, coV, setCells, n1, n2, n3, hO2', bx, wd, c_Rd, k1, w1, w2, w3, w4, hO4', b4, bx4]
      exact fin
  | true =>
    rw [hgo, if_pos rfl] at hok
    rw [hgo] at k1
    obtain ⟨X, hX⟩ : ∃ X, X = checkR k false false g.i T := ⟨_, rfl⟩
    rw [← hX] at hok
    by_cases hX0 : X = 0
    case neg =>
      have hX2 : (X != 0) = true := by simpa using hX0
      have hE1 := hE70 (by rw [hok]; exact hX0)
      have fin := goal (.tup [.nils, .int .i64 70], some (O4, objs.length)) ⟨.nils, _, by rw [hE1], hold4, rfl, rfl, fun _ => rfl, fun q => by rw [hE1] at q; cases q⟩
      rcases h7 with ⟨h7, e7, ht⟩ | ⟨h7, e7, ht⟩
      · simp -implicitDefEqProofs (disch := omega) [e1, e22, e23, e24, e7, ht, ho, hlo, h, ix, g1, coV, setCells, n1, n2, n3, hO2', bx, wd, c_Rd, k1, w1, w2, w3, w4, hO4', b4, bx4, c_cCheck, k_cCheck, xb, gi, z3, ← hX, hX2]
        exact fin
      · simp -implicitDefEqProofs (disch := omega) [e1, e22, e23, e24, e7, ht, ho, hlo, h, ix, g1, coV, setCells, n1, n2, n3, hO2', bx, wd, c_Rd, k1, w1, w2, w3, w4, hO4', b4, bx4, c_cCheck, k_cCheck, xb, gi, z3, ← hX, hX2]
        exact fin
    rw [hX0] at hX hok
    have hpre2 : ∀ j, j < i + 1 → okD cols b j = 0 := fun j hj => by
      rcases Nat.lt_or_ge j i with hj2 | hj2
      · exact hpre j hj2
      · obtain rfl : j = i := by omega
        exact hok
    obtain ⟨w', cw, hw', -, wd', wt'⟩ := told_cut hw (some (.int .i64 g.n)) none g.n (restD cols b i).length (by simp [boundV]) (by simp [boundV]) gn (Nat.le_refl _)
    rw [List.take_length, ← hrs] at hw'
    have hP2 := hP.snoc hOO4 hold (x := ⟨false, g.i, x⟩) (y := cD g) (by rw [hRl, hW, rowD_at h, hge]) y1 rfl rfl (by rw [y2]; exact hrow4) (fun m hm => by have := hid m hm; omega)
    have hs3 : flatV ceV R ++ [.bool false, .int .i64 g.i, x] = flatV ceV (R ++ [⟨false, g.i, x⟩]) := by rw [← flatV_snoc]; rfl
    have hm3 : (i * 3 + 3) = (i + 1) * 3 := by omega
    rcases h7 with ⟨h7, e7, ht⟩ | ⟨h7, e7, ht⟩
    · have hR0 : R = [] := List.eq_nil_of_length_eq_zero (by omega)
      have hs4 : [V.bool false, .int .i64 g.i, x] = flatV ceV (R ++ [⟨false, g.i, x⟩]) := by rw [hR0]; rfl
      simp -implicitDefEqProofs (disch := omega) [e1, e22, e23, e24, e7, ht, ho, hlo, h, ix, g1, coV, setCells, n1, n2, n3, hO2', bx, wd, c_Rd, k1, w1, w2, w3, w4, hO4', b4, bx4, c_cCheck, k_cCheck, xb, gi, z3, ← hX, clit1, cw, wrap_small]
      rw [hI]
      exact ⟨⟨w', by simp, wd', hw'⟩, by simp [e22], by simp [e23], by simp, rfl, hold4, hpre2, _, .inr ⟨by omega, by simp [hs4, h7], by simp [h7]⟩, by simp [hRl], hP2⟩
    · simp -implicitDefEqProofs (disch := omega) [e1, e22, e23, e24, e7, ht, ho, hlo, h, ix, g1, coV, setCells, n1, n2, n3, hO2', bx, wd, c_Rd, k1, w1, w2, w3, w4, hO4', b4, bx4, c_cCheck, k_cCheck, xb, gi, z3, ← hX, clit1, hfl, hs3, hm3, cw, wrap_small]
      rw [hI]
      exact ⟨⟨w', by simp, wd', hw'⟩, by simp [e22], by simp [e23], by simp, rfl, hold4, hpre2, _, .inr ⟨by omega, by simp, by simp⟩, by simp [hRl], hP2⟩

end Go.Proofs.YtiaihiccaoibgaaDoor.B

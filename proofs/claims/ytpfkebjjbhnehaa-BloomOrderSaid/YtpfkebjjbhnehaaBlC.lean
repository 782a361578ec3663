import Derived.Test.YtpfkebjjbhnehaaBlB
set_option linter.unusedSimpArgs false
set_option linter.unusedVariables false
set_option linter.unusedSectionVars false
set_option maxRecDepth 20000
set_option maxHeartbeats 1000000
namespace Go.Proofs.Ytpfkebjjbhnehaa.B
open Go Go.Ab
/-! a filter: its row and what points to it -/
def filR (objs : List AO) (v : V) : Option (Nat × Nat × List Int) := match v with
  | .ptr F fv 0 => match Ab.getObj objs F fv with
    | some [.ref R rv 0 m 1] => match Ab.getObj objs R rv with
      | some cs => match ofCellsI .u8 cs with
        | some row => if row.length = m ∧ b8 row = true then some (R, rv, row) else none
        | none => none
      | none => none
    | _ => none
  | _ => none
theorem filR_inv {objs : List AO} {v : V} {R rv : Nat} {row : List Int} (h : filR objs v = some (R, rv, row)) : ∃ F fv, v = .ptr F fv 0 ∧ Ab.getObj objs F fv = some [.ref R rv 0 row.length 1] ∧ Ab.getObj objs R rv = some (ints .u8 row) ∧ b8 row = true := by
  unfold filR at h
  split at h
  case h_2 => cases h
  rename_i F fv
  split at h
  case h_2 => cases h
  rename_i R' rv' m hF
  split at h
  case h_2 => cases h
  rename_i cs hR
  split at h
  case h_2 => cases h
  rename_i row' hc
  split at h
  case isFalse => cases h
  rename_i hm
  cases h
  obtain ⟨rfl, hb⟩ := hm
  exact ⟨F, fv, rfl, hF, by rw [hR, ofCellsI_inv hc], hb⟩
theorem filR_of {objs : List AO} {F fv R rv : Nat} {row : List Int} (h1 : Ab.getObj objs F fv = some [.ref R rv 0 row.length 1]) (h2 : Ab.getObj objs R rv = some (ints .u8 row)) (h3 : b8 row = true) : filR objs (.ptr F fv 0) = some (R, rv, row) := by
  simp [filR, h1, h2, h3]
theorem zeros_u8 (M : Nat) : zeros [.int .u8 0] M = ints .u8 (List.replicate M 0) := by
  induction M with
  | zero => rfl
  | succ M ih => rw [show zeros [V.int .u8 0] (M + 1) = [V.int .u8 0] ++ zeros [.int .u8 0] M from rfl, ih]; rfl
theorem fitF {a b c d e : Nat} : fillV (placeOf Try.prog 55) [.nils] [(0, .ref a b c d e)] = some [.ref a b c d e] := by simp [fillV, setCells]
noncomputable def k_New : Ab.Spec := con1 (ofInt .i64) fun n objs => some (.ptr (objs.length + 1) 0 0, some (objs ++ [.cells (ints .u8 (List.replicate (mB n) 0)) 0, .cells [.ref objs.length 0 0 (mB n) 1] 0], objs.length))
noncomputable def T_New : CallF := withF T_rCount 8 k_New
theorem T_New_ok : CallOk Try.prog T_New := con_of (A := annOf [] [12] [] true []) fit T_rCount_ok (fn := Try.f8) (by kernel_rfl) (by kernel_rfl) (by
  intro args objs r h0
  obtain ⟨_, n, rfl, hn, hR⟩ := con1_inv h0
  obtain rfl := ofInt_inv hn
  cases hR
  have hm' := mB_le n
  obtain ⟨c1, c2⟩ := clampN_le n
  obtain ⟨N, hN⟩ : ∃ N, N = clampN n := ⟨_, rfl⟩
  obtain ⟨M, hM⟩ : ∃ M, M = mB n := ⟨_, rfl⟩
  have hMN : M = ((max (10 * N) 64 + 7) / 8).toNat := by rw [hM, hN, mB]
  have hx : (if 4096 < (if n < 0 then 0 else n) then (4096 : Int) else if n < 0 then 0 else n) = N := by
    rw [hN]; unfold clampN
    by_cases h1 : n < 0
    · simp [h1]
    · simp [h1]
  rw [← hN] at c1 c2
  rw [← hM] at hm' ⊢
  clear hN hM
  have w10 : IntKind.i64.wrap (10 * N) = 10 * N := wrap_small (by omega) (by omega)
  obtain ⟨X, hX⟩ : ∃ X, X = (if 10 * N < 64 then 64 else 10 * N) := ⟨_, rfl⟩
  have hm : (if 10 * N < 64 then 64 else 10 * N) = X := hX.symm
  have hXM : X = max (10 * N) 64 := by rw [hX]; split <;> omega
  have w7 : IntKind.i64.wrap (X + 7) = X + 7 := wrap_small (by omega) (by omega)
  have td : (X + 7).tdiv 8 = (M : Int) := by rw [Int.tdiv_eq_ediv_of_nonneg (by omega)]; omega
  have wm : IntKind.i64.wrap (M : Int) = M := wrap_small (by omega) (by omega)
  have hmn : ¬ (M : Int) < 0 := by omega
  have hmn3 : (M : Int) < 140737488355328 := by omega
  have hz := zeros_u8 M
  refine .goK _ rfl rfl rfl ?_
  simp -implicitDefEqProofs (disch := omega) [hx, w10, hm, w7, td, wm, hmn, hmn3, hz, fitF])
noncomputable def k_places : Ab.Spec := con2 some some fun f v objs => match f with | .ptr F fv 0 => pre (demote v = v ∧ cellsOf v = [v] ∧ isDef v = true) (some (.fn (.func 47) [] [.ptr (objs.length + 1) 0 0, .ptr objs.length 0 0], some (objs ++ [.cells [.ptr F fv 0] 0, .cells [v] 0], objs.length))) | _ => none
noncomputable def T_places : CallF := withF T_New 32 k_places
theorem T_places_ok : CallOk Try.prog T_places := con_of (A := annOf [] [] [] true []) fit T_New_ok (fn := Try.f32) (by kernel_rfl) (by kernel_rfl) (by
  intro args objs r h0
  obtain ⟨f, v, _, _, rfl, hf, hv, hR⟩ := con2_inv h0
  cases hf; cases hv
  split at hR
  case h_2 => cases hR
  obtain ⟨⟨h1, h2, h3⟩, hR⟩ := pre_inv hR
  cases hR
  refine .goK _ rfl rfl rfl ?_
  simp (disch := omega) [-boxO, h1, h2, box_of h3, box_of (show isDef (V.ptr _ _ _) = true from rfl)])
noncomputable def k_Bits : Ab.Spec := con1 some fun f objs => match filR objs f with | some (_, _, row) => bnd row.length 1099511627776 (some (.int .i64 (8 * (row.length : Int)), none)) | none => none
noncomputable def T_Bits : CallF := withF T_places 15 k_Bits
theorem T_Bits_ok : CallOk Try.prog T_Bits := con_of (A := annOf [] [] [] false []) fit T_places_ok (fn := Try.f15) (by kernel_rfl) (by kernel_rfl) (by
  intro args objs r h0
  obtain ⟨f, _, rfl, hf, hR⟩ := con1_inv h0
  cases hf
  split at hR
  case h_2 => cases hR
  rename_i R rv row hfil
  obtain ⟨hl, hR⟩ := bnd_inv hR
  cases hR
  obtain ⟨F, fv, rfl, g1, g2, g3⟩ := filR_inv hfil
  have w : IntKind.i64.wrap ((row.length : Int) * 8) = 8 * (row.length : Int) := by rw [wrap_small (by omega) (by omega)]; omega
  refine .go _ rfl rfl ?_
  simp (disch := omega) [g1, g2, w])

/-! bits of bytes -/
theorem nthS_eq {α : Type} [Inhabited α] {l : List α} {i : Nat} {a : α} (h : i < l.length) : nth (l.set i a) i = a := by rw [nth_lt (by simpa using h)]; simp
theorem nthS_ne {α : Type} [Inhabited α] {l : List α} {i j : Nat} {a : α} (h : j ≠ i) : nth (l.set i a) j = nth l j := by
  unfold nth
  rw [List.getD_eq_getElem?_getD, List.getD_eq_getElem?_getD, List.getElem?_set_ne (fun q => h q.symm)]
def bitI (c : Int) (k : Nat) : Bool := decide (c / 2 ^ k % 2 = 1)
def orC (c : Int) (k : Nat) : Int := Go.bits .or .u8 c (2 ^ k)
def bitsChk : Bool := (List.range 256).all fun c : Nat => (List.range 8).all fun k : Nat => decide (0 ≤ orC c k) && decide (orC c k < 256) && (decide (Go.bits .and .u8 c (2 ^ k) = 0) == !bitI c k) && (List.range 8).all fun j : Nat => bitI (orC c k) j == (bitI c j || decide (j = k))
theorem bitsChk_ok : bitsChk = true := by kernel_rfl
theorem bits_at {c : Int} (h0 : 0 ≤ c) (h1 : c < 256) {k : Nat} (hk : k < 8) : 0 ≤ orC c k ∧ orC c k < 256 ∧ (Go.bits .and .u8 c (2 ^ k) = 0 ↔ bitI c k = false) ∧ ∀ j, j < 8 → bitI (orC c k) j = (bitI c j || decide (j = k)) := by
  obtain ⟨m, rfl⟩ := Int.eq_ofNat_of_zero_le h0
  have h := bitsChk_ok
  unfold bitsChk at h
  rw [List.all_eq_true] at h
  have h := h m (by rw [List.mem_range]; omega)
  rw [List.all_eq_true] at h
  have h := h k (by rw [List.mem_range]; omega)
  rw [Bool.and_eq_true, Bool.and_eq_true, Bool.and_eq_true, List.all_eq_true] at h
  obtain ⟨⟨⟨a1, a2⟩, a3⟩, a4⟩ := h
  refine ⟨of_decide_eq_true a1, of_decide_eq_true a2, ?_, fun j hj => ?_⟩
  · rw [beq_iff_eq] at a3
    cases hb : bitI (m : Int) k <;> rw [hb] at a3 <;> simpa using a3
  · have := a4 j (by rw [List.mem_range]; omega)
    rwa [beq_iff_eq] at this
def bitsC (c : Int) : List Bool := (List.range 8).map (bitI c)
def bitsZ (row : List Int) : List Bool := row.flatMap bitsC
theorem bitsC_len (c : Int) : (bitsC c).length = 8 := by simp [bitsC]
theorem bitsZ_len (row : List Int) : (bitsZ row).length = 8 * row.length := by
  induction row with
  | nil => rfl
  | cons c row ih => rw [bitsZ, List.flatMap_cons, List.length_append, bitsC_len]; rw [bitsZ] at ih; rw [ih, List.length_cons]; omega
theorem bitsZ_nth : ∀ (row : List Int) (p : Nat), p < 8 * row.length → nth (bitsZ row) p = bitI (nth row (p / 8)) (p % 8)
  | [], p, h => by simp at h
  | c :: row, p, h => by
    have e : bitsZ (c :: row) = bitsC c ++ bitsZ row := by simp [bitsZ]
    rw [e]
    rcases Nat.lt_or_ge p 8 with q | q
    · rw [nth_app_l (by rw [bitsC_len]; exact q), Nat.div_eq_of_lt q, Nat.mod_eq_of_lt q]
      have : nth (bitsC c) p = bitI c p := by
        unfold bitsC
        rw [nth_map (by simpa using q)]
        congr 1
        simp [nth, q]
      rw [this]; rfl
    · rw [nth_app_r (by rw [bitsC_len]; exact q), bitsC_len, bitsZ_nth row (p - 8) (by simp at h; omega)]
      have e1 : p / 8 = (p - 8) / 8 + 1 := by omega
      have e2 : p % 8 = (p - 8) % 8 := by omega
      rw [e1, e2]; rfl
theorem bitsZ_set {row : List Int} (hb : b8 row = true) {p : Nat} (h : p < 8 * row.length) : bitsZ (row.set (p / 8) (orC (nth row (p / 8)) (p % 8))) = (bitsZ row).set p true := by
  have hp : p / 8 < row.length := by omega
  obtain ⟨c0, c1⟩ := b8_iff.1 hb _ (nth_mem hp)
  obtain ⟨-, -, -, ho⟩ := bits_at c0 c1 (k := p % 8) (by omega)
  refine ext_nth (by rw [List.length_set, bitsZ_len, bitsZ_len, List.length_set]) fun q hq => ?_
  rw [bitsZ_len, List.length_set] at hq
  rw [bitsZ_nth _ _ (by rw [List.length_set]; exact hq)]
  by_cases e : q / 8 = p / 8
  · rw [e, nthS_eq hp, ho (q % 8) (by omega)]
    by_cases e2 : q = p
    · subst e2
      rw [nthS_eq (by rw [bitsZ_len]; exact h)]
      simp
    · have e3 : q % 8 ≠ p % 8 := by omega
      rw [nthS_ne (fun z => e2 z), bitsZ_nth _ _ hq, e]
      simp [e3]
  · rw [nthS_ne (fun z => e z), nthS_ne (fun z => e (by rw [z])), bitsZ_nth _ _ hq]
theorem bitsZ_zero (m : Nat) : bitsZ (List.replicate m 0) = noB (8 * m) := by
  refine ext_nth (by rw [bitsZ_len, List.length_replicate, noB_len]) fun q hq => ?_
  rw [bitsZ_len, List.length_replicate] at hq
  rw [bitsZ_nth _ _ (by rw [List.length_replicate]; exact hq)]
  have e1 : nth (List.replicate m (0 : Int)) (q / 8) = 0 := by rw [nth_lt (by rw [List.length_replicate]; omega)]; simp
  have e2 : nth (noB (8 * m)) q = false := by rw [nth_lt (by rw [noB_len]; exact hq)]; simp [noB]
  rw [e1, e2]
  simp [bitI]
/-- A row with a key's bits set, the first k of them. -/
def rowAdd (row : List Int) (h : Int) : Nat → List Int
  | 0 => row
  | k + 1 => (rowAdd row h k).set ((plZ h k (8 * row.length : Nat)).toNat / 8) (orC (nth (rowAdd row h k) ((plZ h k (8 * row.length : Nat)).toNat / 8)) ((plZ h k (8 * row.length : Nat)).toNat % 8))
theorem rowAdd_len (row : List Int) (h : Int) : ∀ k, (rowAdd row h k).length = row.length
  | 0 => rfl
  | k + 1 => by rw [rowAdd, List.length_set]; exact rowAdd_len row h k
theorem pl_in {row : List Int} (hr : 0 < row.length) (h i : Int) : (plZ h i (8 * row.length : Nat)).toNat < 8 * row.length := by
  have := plZ_lt (h := h) (i := i) (m := (8 * row.length : Nat)) (by omega)
  omega
theorem rowAdd_b8 {row : List Int} (hb : b8 row = true) (hr : 0 < row.length) (h : Int) : ∀ k, b8 (rowAdd row h k) = true
  | 0 => hb
  | k + 1 => by
    have ih := rowAdd_b8 hb hr h k
    have hp := pl_in hr h k
    have hl := rowAdd_len row h k
    rw [rowAdd]
    refine b8_iff.2 fun c hc => ?_
    rcases List.mem_or_eq_of_mem_set hc with q | rfl
    · exact b8_iff.1 ih c q
    · obtain ⟨c0, c1⟩ := b8_iff.1 ih _ (nth_mem (i := (plZ h k (8 * row.length : Nat)).toNat / 8) (by omega))
      obtain ⟨a1, a2, -⟩ := bits_at c0 c1 (k := (plZ h k (8 * row.length : Nat)).toNat % 8) (by omega)
      exact ⟨a1, a2⟩
theorem rowAdd_bits {row : List Int} (hb : b8 row = true) (hr : 0 < row.length) (h : Int) : ∀ k, bitsZ (rowAdd row h k) = addB (bitsZ row) h k
  | 0 => rfl
  | k + 1 => by
    have hp := pl_in hr h k
    rw [rowAdd, addB, bitsZ_set (rowAdd_b8 hb hr h k) (by rw [rowAdd_len]; exact hp), rowAdd_bits hb hr h k, bitsZ_len]
def hasR (row : List Int) (h : Int) : Bool := (List.range 6).all fun k : Nat => bitI (nth row ((plZ h k (8 * row.length : Nat)).toNat / 8)) ((plZ h k (8 * row.length : Nat)).toNat % 8)
theorem hasR_bits {row : List Int} (hr : 0 < row.length) (h : Int) : hasR row h = hasB (bitsZ row) h := by
  unfold hasR hasB
  congr 1
  funext k
  rw [bitsZ_len, bitsZ_nth _ _ (pl_in hr h k)]

end Go.Proofs.Ytpfkebjjbhnehaa.B
set_option maxRecDepth 20000
set_option maxHeartbeats 1000000
namespace Go.Proofs.Ytpfkebjjbhnehaa.B
open Go Go.Ab
/-! the closure that yields a key's bits -/
theorem and_u64 (H : Int) (h0 : 0 ≤ H) (h1 : H < 18446744073709551616) : Go.bits .and .u64 H 4294967295 = pA H := by
  obtain ⟨h, rfl⟩ := Int.eq_ofNat_of_zero_le h0
  rw [show Go.bits .and .u64 (h : Int) 4294967295 = IntKind.u64.wrap ((BitVec.ofInt 64 (h : Int) &&& BitVec.ofInt 64 4294967295).toNat : Int) from rfl]
  rw [BitVec.ofInt_natCast, BitVec.toNat_and, BitVec.toNat_ofNat, show (BitVec.ofInt 64 4294967295).toNat = 2 ^ 32 - 1 from rfl, Nat.and_two_pow_sub_one_eq_mod, Nat.mod_eq_of_lt (show h < 2 ^ 64 by omega), wrap_u64 (by omega) (by omega)]
  unfold pA; omega
theorem and_u64_7 (p : Nat) (h1 : p < 18446744073709551616) : Go.bits .and .u64 (p : Int) 7 = ((p % 8 : Nat) : Int) := by
  rw [show Go.bits .and .u64 (p : Int) 7 = IntKind.u64.wrap ((BitVec.ofInt 64 (p : Int) &&& BitVec.ofInt 64 7).toNat : Int) from rfl]
  rw [BitVec.ofInt_natCast, BitVec.toNat_and, BitVec.toNat_ofNat, show (BitVec.ofInt 64 7).toNat = 2 ^ 3 - 1 from rfl, Nat.and_two_pow_sub_one_eq_mod, Nat.mod_eq_of_lt (show p < 2 ^ 64 by omega), wrap_u64 (by omega) (by omega)]
theorem or_one (x : Nat) : x ||| 1 = if x % 2 = 0 then x + 1 else x := by
  have h1 : (x ||| 1) / 2 = x / 2 := by rw [Nat.or_div_two]; simp
  have h2 : (x ||| 1) % 2 = 1 := by rw [Nat.or_mod_two_eq_one]; right; rfl
  split <;> omega
theorem or_u64 (H : Int) (h0 : 0 ≤ H) (h1 : H < 18446744073709551616) : Go.bits .or .u64 (H / 4294967296) 1 = pB H := by
  obtain ⟨h, rfl⟩ := Int.eq_ofNat_of_zero_le h0
  obtain ⟨x, hx⟩ : ∃ x, x = h / 4294967296 := ⟨_, rfl⟩
  have e : (h : Int) / 4294967296 = (x : Int) := by omega
  unfold pB
  rw [e]
  rw [show Go.bits .or .u64 (x : Int) 1 = IntKind.u64.wrap ((BitVec.ofInt 64 (x : Int) ||| BitVec.ofInt 64 1).toNat : Int) from rfl]
  rw [BitVec.ofInt_natCast, BitVec.toNat_or, BitVec.toNat_ofNat, show (BitVec.ofInt 64 1).toNat = 1 from rfl, Nat.mod_eq_of_lt (show x < 2 ^ 64 by omega), or_one]
  by_cases q : x % 2 = 0
  · have q2 : (x : Int) % 2 = 0 := by omega
    rw [if_pos q, if_pos q2, wrap_u64 (by omega) (by omega)]; omega
  · have q2 : ¬ (x : Int) % 2 = 0 := by omega
    rw [if_neg q, if_neg q2, wrap_u64 (by omega) (by omega)]
theorem pB_lt {H : Int} (h0 : 0 ≤ H) (h1 : H < 18446744073709551616) : 0 ≤ pB H ∧ pB H < 4294967297 := by unfold pB; split <;> omega
theorem pA_lt (H : Int) : 0 ≤ pA H ∧ pA H < 4294967296 := by unfold pA; omega
noncomputable def clo : Code := Try.f47.body.getD .skip
theorem clo_body : Try.f47.body = some clo := by kernel_rfl
def plP (H : Int) (N i : Nat) : Nat := (plZ H i (8 * N : Nat)).toNat
def yArgs (H : Int) (N i : Nat) : List V := [.int .i64 ((plP H N i / 8 : Nat) : Int), .int .u8 (2 ^ (plP H N i % 8))]
/-- Six rounds, or as many as there are up to a jump. -/
theorem clo_ok {T : CallF} (hc : CallOk Try.prog T) (hT : ∀ a o, T 20 a o = k_Hash a o) {base : Nat} {L : Lp} {Y : Rd} (hYl : YLow base Y) {Oi : Nat → List AO} {yl : Nat → Nat} {lo : Nat → Nat} {K : Nat} {jx : Ex} {Ox : List AO} {yx : Nat} {KB FB F fv R rv N : Nat} {kv : V} {l : List Int} (hN : 0 < N) (hN2 : N < 1099511627776) (hl : l.length < 140737488355328) (hK : K ≤ 6)
    (g1 : ∀ i, i ≤ K → Ab.getObj (Oi i) FB 0 = some [.ptr F fv 0] ∧ Ab.getObj (Oi i) F fv = some [.ref R rv 0 N 1]) (g0 : Ab.getObj (Oi 0) KB 0 = some [kv]) (g2 : demote kv = kv) (g3 : ofIntsR .u8 (Oi 0) kv = some l)
    (h1 : ∀ i, i < K → Y (yArgs (hashZ l) N i) (Oi i) .norm (Oi (i + 1)) (yl i)) (hl0 : lo 0 = (Oi 0).length) (hl1 : ∀ i, i < K → lo (i + 1) = if yl i < lo i then yl i else lo i) (h2 : K < 6 → jx ≠ .norm ∧ Y (yArgs (hashZ l) N K) (Oi K) jx Ox yx) :
    ToL Try.prog (annOf [] [] [] false []) T 47 base L Y clo ⟨entryEnv [.fn (.yield L.l) [] [], .ptr KB 0 0, .ptr FB 0 0], [], Oi 0, (Oi 0).length⟩ (fun e s j => (e = .norm ∨ e = .ret) ∧ j = (if K < 6 then jx else .norm) ∧ s.objs = (if K < 6 then Ox else Oi 6) ∧ s.low = if K < 6 then (if yx < lo K then yx else lo K) else lo 6) := by
  obtain ⟨k1, k2⟩ := hash_u64 l
  obtain ⟨H, hH⟩ : ∃ H, H = hashZ l := ⟨_, rfl⟩
  rw [← hH] at k1 k2 h1 h2
  have ea := and_u64 H k1 k2
  have eo := or_u64 H k1 k2
  have esh : H.fdiv 4294967296 = H / 4294967296 := by rw [Int.fdiv_eq_ediv_of_nonneg _ (by omega)]
  obtain ⟨a1, a2⟩ := pA_lt H
  obtain ⟨b1, b2⟩ := pB_lt k1 k2
  have kg : loadV Try.prog 23 (Oi 0) (.ptr KB 0 0) = some kv := by simp [g0, g2]
  refine ToL.front (M := fun s => s.env 0 = .fn (.yield L.l) [] [] ∧ s.env 2 = .ptr FB 0 0 ∧ s.env 4 = .int .u64 H ∧ s.toks = [] ∧ s.objs = Oi 0 ∧ s.low = (Oi 0).length) fit.mixed hc (by kernel_rfl) ?_ ?_
  · simp -implicitDefEqProofs (disch := omega) [g0, g2, g3, hT, k_Hash, hl, ← hH]
    exact ⟨rfl, rfl, rfl, rfl, rfl, rfl, rfl⟩
  rintro s ⟨e0, e2, e4, ht, ho, hlo⟩
  refine ToL.front (M := fun s => s.env 0 = .fn (.yield L.l) [] [] ∧ s.env 2 = .ptr FB 0 0 ∧ s.env 5 = .int .u64 (pA H) ∧ s.env 6 = .int .u64 (pB H) ∧ s.toks = [] ∧ s.objs = Oi 0 ∧ s.low = (Oi 0).length) fit.mixed hc (by kernel_rfl) ?_ ?_
  · simp -implicitDefEqProofs (disch := omega) [e0, e2, e4, ht, ho, hlo, ea, esh, eo]
    exact ⟨rfl, by simp [e0], by simp [e2], rfl, rfl, rfl, rfl, rfl⟩
  clear e0 e2 e4 ht ho hlo
  clear s
  rintro s ⟨e0, e2, e5, e6, ht, ho, hlo⟩
  refine ToL.front (M := fun s => s.env 0 = .fn (.yield L.l) [] [] ∧ s.env 2 = .ptr FB 0 0 ∧ s.env 5 = .int .u64 (pA H) ∧ s.env 6 = .int .u64 (pB H) ∧ s.env 16 = .int .u64 0 ∧ s.toks = [] ∧ s.objs = Oi 0 ∧ s.low = (Oi 0).length) fit.mixed hc (by kernel_rfl) ?_ ?_
  · simp -implicitDefEqProofs (disch := omega) [e0, e2, e5, e6, ht, ho, hlo]
    exact ⟨rfl, by simp [e0], by simp [e2], by simp [e5], by simp [e6], rfl, rfl, rfl, rfl⟩
  clear e0 e2 e5 e6 ht ho hlo
  clear s
  rintro s ⟨e0, e2, e5, e6, e16, ht, ho, hlo⟩
  obtain ⟨I, hI⟩ : ∃ I : Nat → St → Prop, I = (fun (i : Nat) (z : St) => i ≤ K ∧ z.env 0 = .fn (.yield L.l) [] [] ∧ z.env 2 = .ptr FB 0 0 ∧ z.env 5 = .int .u64 (pA H) ∧ z.env 6 = .int .u64 (pB H) ∧ z.env 16 = .int .u64 i ∧ z.toks = [] ∧ z.objs = Oi i ∧ z.low = lo i) := ⟨_, rfl⟩
  refine ToL.block (ToL.up 6 I (by rw [hI]; exact ⟨by omega, e0, e2, e5, e6, e16, ht, ho, by rw [hlo, hl0]⟩) ?_)
  clear e0 e2 e5 e6 e16 ht ho hlo
  clear s
  intro i s hi hz
  rw [hI] at hz
  obtain ⟨hiK, e0, e2, e5, e6, e16, ht, ho, hlo⟩ := hz
  refine ToL.front (M := fun s => s.env 0 = .fn (.yield L.l) [] [] ∧ s.env 2 = .ptr FB 0 0 ∧ s.env 5 = .int .u64 (pA H) ∧ s.env 6 = .int .u64 (pB H) ∧ s.env 16 = .int .u64 i ∧ s.env 17 = .bool (decide ((i : Int) < 6)) ∧ s.toks = [] ∧ s.objs = Oi i ∧ s.low = lo i) fit.mixed hc (by kernel_rfl) ?_ ?_
  · simp -implicitDefEqProofs (disch := omega) [e0, e2, e5, e6, e16, ht, ho, hlo]
    exact ⟨rfl, by simp [e0], by simp [e2], by simp [e5], by simp [e6], by simp [e16], rfl, rfl, rfl, rfl⟩
  clear e0 e2 e5 e6 e16 ht ho hlo
  clear s
  rintro s ⟨e0, e2, e5, e6, e16, e17, ht, ho, hlo⟩
  rcases Nat.lt_or_ge i 6 with h6 | h6
  case inr =>
    obtain rfl : i = 6 := by omega
    obtain rfl : K = 6 := by omega
    refine ToL.outs fit.mixed hc (by kernel_rfl) ?_
    simp -implicitDefEqProofs [e17]
    exact ⟨by simp, .inl rfl, ho, hlo⟩
  have h6z : (i : Int) < 6 := by omega
  refine ToL.front (M := fun s' => s = s') fit.mixed hc (by kernel_rfl) ?_ ?_
  · simp -implicitDefEqProofs [e17, h6z]
    exact ⟨rfl, rfl⟩
  rintro _ rfl
  obtain ⟨gF1, gF2⟩ := g1 i hiK
  refine ToL.seq (ToL.block ?_)
  refine ToL.front (M := fun s => s.env 0 = .fn (.yield L.l) [] [] ∧ s.env 2 = .ptr FB 0 0 ∧ s.env 5 = .int .u64 (pA H) ∧ s.env 6 = .int .u64 (pB H) ∧ s.env 16 = .int .u64 i ∧ s.env 7 = .int .u64 i ∧ s.toks = [] ∧ s.objs = Oi i ∧ s.low = lo i) fit.mixed hc (by kernel_rfl) ?_ ?_
  · simp -implicitDefEqProofs (disch := omega) [e0, e2, e5, e6, e16, ht, ho, hlo]
    exact ⟨rfl, by simp [e0], by simp [e2], by simp [e5], by simp [e6], by simp [e16], rfl, rfl, rfl, rfl⟩
  clear e0 e2 e5 e6 e16 e17 ht ho hlo
  clear s
  rintro s ⟨e0, e2, e5, e6, e16, e7, ht, ho, hlo⟩
  obtain ⟨p, hp⟩ : ∃ p, p = plP H N i := ⟨_, rfl⟩
  obtain ⟨q1, q2⟩ := plZ_lt (h := H) (i := i) (m := (8 * N : Nat)) (by omega)
  have hpz : plZ H i (8 * N : Nat) = (p : Int) := by rw [hp]; unfold plP; omega
  rw [hpz] at q1 q2
  have w8 : IntKind.i64.wrap ((N : Int) * 8) = 8 * (N : Int) := by rw [wrap_small (by omega) (by omega)]; omega
  have w8u : IntKind.u64.wrap (8 * (N : Int)) = 8 * (N : Int) := wrap_u64 (by omega) (by omega)
  have hn0 : ¬ N = 0 := by omega
  have hn1 : ¬ 8 * (N : Int) = 0 := by omega
  have tm : (IntKind.u64.wrap (pA H + IntKind.u64.wrap (i * pB H))).tmod (8 * (N : Int)) = (p : Int) := by rw [← hpz, plZ, show ((8 * N : Nat) : Int) = 8 * (N : Int) by omega]; exact Int.tmod_eq_emod_of_nonneg (u64_lt _).1
  have wp : IntKind.u64.wrap (p : Int) = p := wrap_u64 (by omega) (by omega)
  refine ToL.front (M := fun s => s.env 0 = .fn (.yield L.l) [] [] ∧ s.env 2 = .ptr FB 0 0 ∧ s.env 5 = .int .u64 (pA H) ∧ s.env 6 = .int .u64 (pB H) ∧ s.env 16 = .int .u64 i ∧ s.env 8 = .int .u64 p ∧ s.toks = [] ∧ s.objs = Oi i ∧ s.low = lo i) fit.mixed hc (by kernel_rfl) ?_ ?_
  · simp -implicitDefEqProofs (disch := omega) [e0, e2, e5, e6, e16, e7, ht, ho, hlo, gF1, gF2, w8, w8u, hn0, hn1, tm, wp, convV]
    exact ⟨rfl, by simp [e0], by simp [e2], by simp [e5], by simp [e6], by simp [e16], rfl, rfl, rfl, rfl⟩
  clear e0 e2 e5 e6 e16 e7 ht ho hlo
  clear s
  rintro s ⟨e0, e2, e5, e6, e16, e8, ht, ho, hlo⟩
  have sh3 : (p : Int).fdiv 8 = (p : Int) / 8 := by rw [Int.fdiv_eq_ediv_of_nonneg _ (by omega)]
  have w64 : IntKind.i64.wrap ((p : Int) / 8) = (p : Int) / 8 := wrap_small (by omega) (by omega)
  have an7 := and_u64_7 p (by omega)
  obtain ⟨k, hk⟩ : ∃ k, k = p % 8 := ⟨_, rfl⟩
  have hk8 : k < 8 := by omega
  have e256 : IntKind.u8.wrap (2 ^ k) = 2 ^ k := by
    have : ∀ m : Fin 8, IntKind.u8.wrap (2 ^ m.val) = 2 ^ m.val := by decide
    exact this ⟨k, hk8⟩
  have hmin : min k 8 = k := by omega
  have hk0 : ¬ (k : Int) < 0 := by omega
  rw [← hk] at an7
  refine ToL.seq (ToL.yields (M := fun s => s.env 0 = .fn (.yield L.l) [] [] ∧ s.env 2 = .ptr FB 0 0 ∧ s.env 5 = .int .u64 (pA H) ∧ s.env 6 = .int .u64 (pB H) ∧ s.env 16 = .int .u64 i ∧ s.env 32 = .fn (.yield L.l) [] [] ∧ s.env 35 = .int .i64 ((p / 8 : Nat) : Int) ∧ s.env 38 = .int .u8 (2 ^ k) ∧ s.toks = [] ∧ s.objs = Oi i ∧ s.low = lo i) (l1 := [_, _, _, _, _, _, _]) (l2 := [_]) hc hYl rfl ?_ ?_)
  · simp -implicitDefEqProofs (disch := omega) [e0, e2, e5, e6, e16, e8, ht, ho, hlo, sh3, w64, an7, e256, hmin, hk0, convV]
    exact ⟨by simp [e0], by simp [e2], by simp [e5], by simp [e6], by simp [e16], by simp, by simp, by simp, rfl, rfl, rfl⟩
  clear e0 e2 e5 e6 e16 e8 ht ho hlo
  clear s
  rintro s ⟨e0, e2, e5, e6, e16, e32, e35, e38, ht, ho, hlo⟩
  refine ⟨by simp [e32], ?_⟩
  have hya : (#[Operand.tmp 35, Operand.tmp 38].toList.map fun x => demote (opd s.env x)) = yArgs H N i := by
    simp [e35, e38, yArgs, ← hp, ← hk]
  rw [hya, ho]
  rcases Nat.lt_or_ge i K with hK1 | hK1
  · refine ⟨.norm, Oi (i + 1), yl i, h1 i hK1, ?_⟩
    obtain ⟨s', hs'⟩ : ∃ s' : St, s' = s.put (some 39) (.bool (jOf .norm).isNone, s.toks, Oi (i + 1), if yl i < s.low then yl i else s.low) := ⟨_, rfl⟩
    have f0 : s'.env 0 = .fn (.yield L.l) [] [] := by rw [hs']; simp [St.put, e0]
    have f2 : s'.env 2 = .ptr FB 0 0 := by rw [hs']; simp [St.put, e2]
    have f5 : s'.env 5 = .int .u64 (pA H) := by rw [hs']; simp [St.put, e5]
    have f6 : s'.env 6 = .int .u64 (pB H) := by rw [hs']; simp [St.put, e6]
    have f16 : s'.env 16 = .int .u64 i := by rw [hs']; simp [St.put, e16]
    have f39 : s'.env 39 = .bool true := by rw [hs']; simp [St.put, jOf]
    have ft : s'.toks = [] := by rw [hs']; exact ht
    have fo : s'.objs = Oi (i + 1) := by rw [hs']; rfl
    have fl : s'.low = lo (i + 1) := by rw [hs', hl1 i hK1]; simp [St.put, hlo]
    rw [← hs']
    clear hs'
    refine Ops.stop (M := fun s => s.env 0 = .fn (.yield L.l) [] [] ∧ s.env 2 = .ptr FB 0 0 ∧ s.env 5 = .int .u64 (pA H) ∧ s.env 6 = .int .u64 (pB H) ∧ s.env 16 = .int .u64 i ∧ s.env 40 = .bool false ∧ s.toks = [] ∧ s.objs = Oi (i + 1) ∧ s.low = lo (i + 1)) ?_ ?_
    · simp -implicitDefEqProofs (disch := omega) [f39]
      exact ⟨by simp [f0], by simp [f2], by simp [f5], by simp [f6], by simp [f16], by simp, ft, fo, fl⟩
    clear f0 f2 f5 f6 f16 f39 ft fo fl
    rintro z ⟨e0, e2, e5, e6, e16, e40, ht, ho, hlo⟩
    refine ToL.last fit.mixed hc (by kernel_rfl) ?_
    simp -implicitDefEqProofs [e40]
    refine ToL.last fit.mixed hc (by kernel_rfl) ?_
    have wi : IntKind.u64.wrap ((i : Int) + 1) = (i : Int) + 1 := wrap_u64 (by omega) (by omega)
    simp -implicitDefEqProofs (disch := omega) [e16, wi]
    rw [hI]
    exact .inl ⟨rfl, h6, by omega, by simp [e0], by simp [e2], by simp [e5], by simp [e6], by simp, ht, ho, hlo⟩
  · obtain rfl : i = K := by omega
    obtain ⟨hj, hYx⟩ := h2 h6
    refine ⟨jx, Ox, yx, hYx, ?_⟩
    obtain ⟨s', hs'⟩ : ∃ s' : St, s' = s.put (some 39) (.bool (jOf jx).isNone, s.toks, Ox, if yx < s.low then yx else s.low) := ⟨_, rfl⟩
    have hjn : (jOf jx).isNone = false := by
      cases jx with
      | norm => exact absurd rfl hj
      | ret => rfl
      | exit id => rfl
    have f39 : s'.env 39 = .bool false := by rw [hs', hjn]; simp [St.put]
    have fo : s'.objs = Ox := by rw [hs']; rfl
    have fl : s'.low = if yx < lo i then yx else lo i := by rw [hs']; simp [St.put, hlo]
    rw [← hs']
    clear hs'
    refine Ops.stop (M := fun s => s.env 40 = .bool true ∧ s.objs = Ox ∧ s.low = if yx < lo i then yx else lo i) ?_ ?_
    · simp -implicitDefEqProofs (disch := omega) [f39]
      exact ⟨by simp, fo, fl⟩
    clear f39 fo fl
    rintro z ⟨e40, ho, hlo⟩
    have fin : ToS Try.prog (annOf [] [] [] false []) T 47 base (.cond (.tmp 40) .ret .skip) z (fun e s2 => e = .ret ∧ s2 = z) := by
      refine ToS.of fit.mixed hc rfl ?_
      simp -implicitDefEqProofs [e40]
      exact ⟨rfl, rfl⟩
    obtain ⟨e', z', hsem, rfl, rfl⟩ := fin
    cases jx with
    | norm => exact absurd rfl hj
    | ret => exact ⟨_, _, hsem, .inr ⟨by simp [leaveE], .inr rfl, (if_pos h6).symm, by rw [if_pos h6]; exact ho, by rw [if_pos h6]; exact hlo⟩⟩
    | exit id => exact ⟨_, _, hsem, .inr ⟨by simp [leaveE], .inr rfl, (if_pos h6).symm, by rw [if_pos h6]; exact ho, by rw [if_pos h6]; exact hlo⟩⟩

end Go.Proofs.Ytpfkebjjbhnehaa.B
set_option maxRecDepth 20000
set_option maxHeartbeats 1000000
namespace Go.Proofs.Ytpfkebjjbhnehaa.B
open Go Go.Ab
theorem hasR_first {row : List Int} {H : Int} {K : Nat} (hK : K ≤ 6) (h1 : ∀ i, i < K → bitI (nth row (plP H row.length i / 8)) (plP H row.length i % 8) = true) (h2 : K < 6 → bitI (nth row (plP H row.length K / 8)) (plP H row.length K % 8) = false) : hasR row H = decide (K = 6) := by
  unfold hasR
  rcases Nat.lt_or_ge K 6 with q | q
  · rw [decide_eq_false (by omega), List.all_eq_false]
    refine ⟨K, by simpa using q, ?_⟩
    have := h2 q
    unfold plP at this
    rw [this]; simp
  · obtain rfl : K = 6 := by omega
    rw [decide_eq_true rfl, List.all_eq_true]
    intro k hk
    exact h1 k (by simpa using hk)
theorem bytesOk {objs : List AO} {v : V} {l : List Int} (h : ofIntsR .u8 objs v = some l) : demote v = v ∧ cellsOf v = [v] ∧ isDef v = true := by
  rcases ofIntsR_inv h with h | ⟨id, ver, off, cs, rfl, -⟩
  · obtain ⟨h1, -, -, -, h2, h3, -⟩ := bs h
    exact ⟨h1, h3, h2⟩
  · exact ⟨rfl, rfl, rfl⟩
noncomputable def k_Has : Ab.Spec := con2 some some fun f v objs => match filR objs f, ofIntsR .u8 objs v with | some (_, _, row), some l => bnd l.length 140737488355328 (if 0 < row.length ∧ row.length < 1099511627776 then some (.bool (hasR row (hashZ l)), none) else none) | _, _ => none
noncomputable def T_Has : CallF := withF T_Bits 18 k_Has
theorem T_Has_ok : CallOk Try.prog T_Has := con_ofW (A := annOf [] [] [] false [32]) fit T_Bits_ok (fn := Try.f18) (by kernel_rfl) (by kernel_rfl) (by
  intro args objs r h0
  have c_places : ∀ a o, T_Bits 32 a o = k_places a o := fun _ _ => rfl
  have c_Hash : ∀ a o, T_Bits 20 a o = k_Hash a o := fun _ _ => rfl
  obtain ⟨f, v, _, _, rfl, hf, hv, hR⟩ := con2_inv h0
  cases hf; cases hv
  split at hR
  case h_2 => cases hR
  rename_i R rv row l hfil ha
  obtain ⟨hl, hR⟩ := bnd_inv hR
  split at hR
  case isFalse => cases hR
  rename_i hc
  cases hR
  obtain ⟨F, fv, rfl, g1, g2, g3⟩ := filR_inv hfil
  obtain ⟨vd, vc, vi⟩ := bytesOk ha
  obtain ⟨H, hH⟩ : ∃ H, H = hashZ l := ⟨_, rfl⟩
  obtain ⟨n, hn⟩ : ∃ n, n = objs.length := ⟨_, rfl⟩
  obtain ⟨O, hO⟩ : ∃ O, O = objs ++ [.cells [.ptr F fv 0] 0, .cells [.bool false] 0, .cells [.ptr F fv 0] 0, .cells [v] 0] := ⟨_, rfl⟩
  have hF := getObj_lt g1
  have hRl := getObj_lt g2
  have o1 : Ab.getObj O n 0 = some [.ptr F fv 0] := by rw [hO, hn]; simp [Ab.getObj]
  have o2 : Ab.getObj O (n + 1) 0 = some [.bool false] := by rw [hO, hn]; simp [Ab.getObj]
  have o3 : Ab.getObj O (n + 2) 0 = some [.ptr F fv 0] := by rw [hO, hn]; simp [Ab.getObj]
  have o4 : Ab.getObj O (n + 3) 0 = some [v] := by rw [hO, hn]; simp [Ab.getObj]
  have o5 : Ab.getObj O F fv = some [.ref R rv 0 row.length 1] := by rw [hO, getObj_app hF]; exact g1
  have o6 : Ab.getObj O R rv = some (ints .u8 row) := by rw [hO, getObj_app hRl]; exact g2
  have ha2 : ofIntsR .u8 O v = some l := by rw [hO]; exact ofIntsR_app ha
  have hOl : O.length = n + 4 := by rw [hO, hn]; simp
  obtain ⟨K, k1, k2, k3⟩ := first_false (fun i => bitI (nth row (plP H row.length i / 8)) (plP H row.length i % 8)) 6
  have hres := hasR_first k1 k2 k3
  rw [← hH]
  refine .go _ rfl rfl ?_
  rw [← hn]
  refine ToW.front (M := fun s => s.env 1 = v ∧ s.env 2 = .ptr n 0 0 ∧ s.env 4 = .ptr (n + 1) 0 0 ∧ s.toks = [] ∧ s.objs = objs ++ [.cells [.ptr F fv 0] 0, .cells [.bool false] 0] ∧ s.low = n) ?_ ?_
  · simp -implicitDefEqProofs (disch := omega) [← hn]
    exact ⟨rfl, by simp, by simp, by simp, rfl, rfl, rfl⟩
  rintro s ⟨e1, e2, e4, ht, ho, hlo⟩
  refine ToW.seq (ToW.front (M := fun s => s.env 2 = .ptr n 0 0 ∧ s.env 4 = .ptr (n + 1) 0 0 ∧ s.env 9 = .fn (.func 47) [] [.ptr (n + 3) 0 0, .ptr (n + 2) 0 0] ∧ s.toks = [] ∧ s.objs = O ∧ s.low = n) ?_ ?_)
  · have o0 : Ab.getObj (objs ++ [.cells [.ptr F fv 0] 0, .cells [.bool false] 0]) n 0 = some [.ptr F fv 0] := by rw [hn]; simp [Ab.getObj]
    have hl2 : (objs ++ [AO.cells [.ptr F fv 0] 0, .cells [.bool false] 0]).length = n + 2 := by rw [hn]; simp
    have kp : k_places [.ptr F fv 0, v] (objs ++ [.cells [.ptr F fv 0] 0, .cells [.bool false] 0]) = some (.fn (.func 47) [] [.ptr (n + 3) 0 0, .ptr (n + 2) 0 0], some (O, n + 2)) := by
      simp [-isDef_eq, -cellsOf_eq, k_places, con2, vd, vc, vi, hO, ← hn, pre_pos]
    simp -implicitDefEqProofs (disch := omega) [e1, e2, e4, ht, ho, hlo, vd, o0, c_places, kp]
    exact ⟨rfl, by simp [e2], by simp [e4], by simp, rfl, rfl, rfl⟩
  clear e1 e2 e4 ht ho hlo
  clear s
  rintro s ⟨e2, e4, e9, ht, ho, hlo⟩
  obtain ⟨Ox, hOx⟩ : ∃ Ox, Ox = O.set (n + 1) (.cells [.bool false] 0) := ⟨_, rfl⟩
  refine ToW.block (ToW.cut (CutOk.ofS (SemC.rangeFunc (A' := annOf [] [] [] false []) (objs' := if K < 6 then Ox else O) (low' := if K < 6 then (if n + 1 < n + 4 then n + 1 else n + 4) else n + 4) (j := if K < 6 then .ret else .norm) fit T_Bits_ok (fn := Try.f47) (by kernel_rfl) clo_body (by kernel_rfl) e9 (by kernel_rfl) (by kernel_rfl) ?_) (fun x h => (by cases h))) ?_)
  · intro L
    rw [ho]
    have key : ∀ Y : Rd, YLow n Y → (∀ i, i < K → Y (yArgs (hashZ l) row.length i) O .norm O (n + 4)) → (K < 6 → Ex.ret ≠ Ex.norm ∧ Y (yArgs (hashZ l) row.length K) O .ret Ox (n + 1)) →
        ∃ e s', (e = Ex.norm ∨ e = Ex.ret) ∧ SemL Try.prog (annOf [] [] [] false []) T_Bits 47 n L Y clo ⟨entryEnv [.fn (.yield L.l) [] [], .ptr (n + 3) 0 0, .ptr (n + 2) 0 0], [], O, O.length⟩ (e, s', if K < 6 then .ret else .norm) ∧ s'.objs = (if K < 6 then Ox else O) ∧ s'.low = if K < 6 then (if n + 1 < n + 4 then n + 1 else n + 4) else n + 4 := by
      intro Y hY h1 h2
      obtain ⟨e, s', j, hsem, he, hj, ho', hl'⟩ := clo_ok (T := T_Bits) (base := n) (L := L) (Oi := fun _ => O) (yl := fun _ => n + 4) (lo := fun _ => n + 4) (K := K) (jx := .ret) (Ox := Ox) (yx := n + 1) (KB := n + 3) (FB := n + 2) (F := F) (fv := fv) (R := R) (rv := rv) (N := row.length) (kv := v) (l := l) T_Bits_ok c_Hash hY hc.1 hc.2 hl k1 (fun i _ => ⟨o3, o5⟩) o4 vd ha2 h1 hOl.symm (fun i _ => by simp) h2
      exact ⟨e, s', he, by rw [hj] at hsem; exact hsem, ho', hl'⟩
    refine key _ (roundY_low T_Bits_ok) ?_ ?_
    · intro i hi
      obtain ⟨p, hp⟩ : ∃ p, p = plP H row.length i := ⟨_, rfl⟩
      have hpl := pl_in hc.1 H i
      have hpl : p < 8 * row.length := by rw [hp]; exact hpl
      obtain ⟨c0, c1⟩ := b8_iff.1 g3 _ (nth_mem (i := p / 8) (by omega))
      obtain ⟨-, -, hand, -⟩ := bits_at c0 c1 (k := p % 8) (by omega)
      obtain ⟨q, hq⟩ : ∃ q, q = p / 8 := ⟨_, rfl⟩
      obtain ⟨c, hcc⟩ : ∃ c, c = nth row q := ⟨_, rfl⟩
      have hql : q < row.length := by omega
      have hbt : bitI (nth row (plP H row.length i / 8)) (plP H row.length i % 8) = true := k2 i hi
      rw [← hp] at hbt
      rw [← hq] at hbt hand c0 c1
      rw [← hcc] at hbt hand
      have hne : ¬ Go.bits .and .u8 c (2 ^ (p % 8)) = 0 := fun z => by rw [hand.1 z] at hbt; cases hbt
      have hix : indexV Try.prog 23 (.ref R rv 0 row.length 1) (.int .i64 (q : Int)) = some (.ptr R rv q) := by simp [hql]
      have hlx : loadV Try.prog 5 O (.ptr R rv q) = some (.int .u8 c) := by
        have e : (ints .u8 row)[q]? = some (.int .u8 (nth row q)) := map_nth hql
        simp [o6, e, ← hcc]
      have hya : yArgs (hashZ l) row.length i = [.int .i64 (q : Int), .int .u8 (2 ^ (p % 8))] := by rw [yArgs, ← hH, ← hp, ← hq]
      rw [hya]
      refine roundY_of2 (M := fun s => s.env 2 = .ptr n 0 0 ∧ s.env 4 = .ptr (n + 1) 0 0 ∧ s.env 5 = .int .i64 (q : Int) ∧ s.env 6 = .int .u8 (2 ^ (p % 8)) ∧ s.toks = [] ∧ s.objs = O ∧ s.low = O.length) rfl ?_ ?_
      · have hpe : parEnv (fun d => demote (s.env d)) #[10, 11].toList [.int .i64 (q : Int), .int .u8 (2 ^ (p % 8))] = Ab.put (Ab.put (fun d => demote (s.env d)) (some 10) (.int .i64 (q : Int))) (some 11) (.int .u8 (2 ^ (p % 8))) := rfl
        rw [hpe]
        simp -implicitDefEqProofs (disch := omega)
        exact ⟨rfl, by simp [e2], by simp [e4], by simp, by simp, rfl, rfl, rfl⟩
      rintro z ⟨f2, f4, f5, f6, ft, fo, fl⟩
      simp -implicitDefEqProofs (disch := omega) [f2, f4, f5, f6, ft, fo, fl, o1, o5, hix, hlx, hne]
      exact ⟨rfl, rfl, hOl⟩
    · intro h6
      obtain ⟨i, hi⟩ : ∃ i, i = K := ⟨_, rfl⟩
      rw [← hi] at h6 ⊢
      obtain ⟨p, hp⟩ : ∃ p, p = plP H row.length i := ⟨_, rfl⟩
      have hpl := pl_in hc.1 H i
      have hpl : p < 8 * row.length := by rw [hp]; exact hpl
      obtain ⟨c0, c1⟩ := b8_iff.1 g3 _ (nth_mem (i := p / 8) (by omega))
      obtain ⟨-, -, hand, -⟩ := bits_at c0 c1 (k := p % 8) (by omega)
      obtain ⟨q, hq⟩ : ∃ q, q = p / 8 := ⟨_, rfl⟩
      obtain ⟨c, hcc⟩ : ∃ c, c = nth row q := ⟨_, rfl⟩
      have hql : q < row.length := by omega
      have hbt : bitI (nth row (plP H row.length i / 8)) (plP H row.length i % 8) = false := by rw [hi] at h6 ⊢; exact k3 h6
      rw [← hp] at hbt
      rw [← hq] at hbt hand c0 c1
      rw [← hcc] at hbt hand
      have hz : Go.bits .and .u8 c (2 ^ (p % 8)) = 0 := hand.2 hbt
      have hlt : n + 1 < O.length := by omega
      have hix : indexV Try.prog 23 (.ref R rv 0 row.length 1) (.int .i64 (q : Int)) = some (.ptr R rv q) := by simp [hql]
      have hlx : loadV Try.prog 5 O (.ptr R rv q) = some (.int .u8 c) := by
        have e : (ints .u8 row)[q]? = some (.int .u8 (nth row q)) := map_nth hql
        simp [o6, e, ← hcc]
      have hya : yArgs (hashZ l) row.length i = [.int .i64 (q : Int), .int .u8 (2 ^ (p % 8))] := by rw [yArgs, ← hH, ← hp, ← hq]
      rw [hya]
      refine ⟨by simp, ?_⟩
      refine roundY_of2 (M := fun s => s.env 2 = .ptr n 0 0 ∧ s.env 4 = .ptr (n + 1) 0 0 ∧ s.env 5 = .int .i64 (q : Int) ∧ s.env 6 = .int .u8 (2 ^ (p % 8)) ∧ s.toks = [] ∧ s.objs = O ∧ s.low = O.length) rfl ?_ ?_
      · have hpe : parEnv (fun d => demote (s.env d)) #[10, 11].toList [.int .i64 (q : Int), .int .u8 (2 ^ (p % 8))] = Ab.put (Ab.put (fun d => demote (s.env d)) (some 10) (.int .i64 (q : Int))) (some 11) (.int .u8 (2 ^ (p % 8))) := rfl
        rw [hpe]
        simp -implicitDefEqProofs (disch := omega)
        exact ⟨rfl, by simp [e2], by simp [e4], by simp, by simp, rfl, rfl, rfl⟩
      rintro z ⟨f2, f4, f5, f6, ft, fo, fl⟩
      simp -implicitDefEqProofs (disch := omega) [f2, f4, f5, f6, ft, fo, fl, o1, o2, o5, hix, hlx, hz, hlt, setCells, ← hOx]
      exact ⟨rfl, rfl, rfl⟩
  have o7 : Ab.getObj Ox (n + 1) 0 = some [.bool false] := by rw [hOx]; simp [Ab.getObj, hOl]
  have o8 : Ab.getObj (O.set (n + 1) (.cells [.bool true] 0)) (n + 1) 0 = some [.bool true] := by simp [Ab.getObj, hOl]
  rcases Nat.lt_or_ge K 6 with h6 | h6
  · have hne : ¬ K = 6 := by omega
    rw [if_pos h6, if_pos h6, if_pos h6]
    show FinQ _ _ _ _ _ _ _ _
    simp -implicitDefEqProofs [FinQ, e4, o7, hres, hne, hlo, ht]
    exact ⟨.inr rfl, by omega⟩
  · obtain rfl : K = 6 := by omega
    rw [if_neg (Nat.lt_irrefl 6), if_neg (Nat.lt_irrefl 6), if_neg (Nat.lt_irrefl 6)]
    show ToW _ _ _ _ _ _ _ _
    refine .of ?_
    simp -implicitDefEqProofs (disch := omega) [e4, ht, hlo, o2, o8, setCells, hres]
    omega)

end Go.Proofs.Ytpfkebjjbhnehaa.B
set_option maxRecDepth 20000
set_option maxHeartbeats 1000000
namespace Go.Proofs.Ytpfkebjjbhnehaa.B
open Go Go.Ab
/-! Add -/
theorem intsS {k : IntKind} {l : List Int} {i : Nat} {c : Int} (h : i < l.length) : setCells (ints k l) i [.int k c] = ints k (l.set i c) := by
  unfold setCells ints
  rw [← List.map_take, ← List.map_drop, List.set_eq_take_append_cons_drop, if_pos h]
  simp
def keyD (objs : List AO) (R : Nat) (v : V) : Option (List Int) := if idOf v = some R then none else ofIntsR .u8 objs v
theorem keyD_inv {objs : List AO} {R : Nat} {v : V} {l : List Int} (h : keyD objs R v = some l) : idOf v ≠ some R ∧ ofIntsR .u8 objs v = some l := by
  unfold keyD at h
  split at h
  · cases h
  · rename_i q; exact ⟨q, h⟩
theorem key_set {objs X : List AO} {R : Nat} {x : AO} {v : V} {l : List Int} (h : keyD objs R v = some l) : ofIntsR .u8 (objs.set R x ++ X) v = some l := by
  obtain ⟨h1, h2⟩ := keyD_inv h
  refine ofIntsR_app ?_
  rcases ofIntsR_inv h2 with h | ⟨id, ver, off, cs, rfl, hg, hrow, hfit⟩
  · exact ofIntsR_of h
  · have hne : R ≠ id := fun q => h1 (by rw [q]; rfl)
    have hg2 : Ab.getObj (objs.set R x) id ver = some cs := by rw [getObj_set_ne hne]; exact hg
    simp only [ofIntsR, hg2, hrow, ofCellsI_ints, Option.bind_some]
    rw [if_pos ⟨trivial, hfit⟩]
def rowAdds (row : List Int) (ls : List (List Int)) : List Int := ls.foldl (fun r l => rowAdd r (hashZ l) 6) row
theorem rowAdds_len (row : List Int) (ls : List (List Int)) : (rowAdds row ls).length = row.length := by
  induction ls generalizing row with
  | nil => rfl
  | cons l ls ih => show (rowAdds (rowAdd row (hashZ l) 6) ls).length = _; rw [ih, rowAdd_len]
theorem rowAdds_b8 {row : List Int} (hb : b8 row = true) (hr : 0 < row.length) (ls : List (List Int)) : b8 (rowAdds row ls) = true := by
  induction ls generalizing row with
  | nil => exact hb
  | cons l ls ih => exact ih (rowAdd_b8 hb hr _ _) (by rw [rowAdd_len]; exact hr)
theorem rowAdds_take {row : List Int} {ls : List (List Int)} {i : Nat} (h : i < ls.length) : rowAdds row (ls.take (i + 1)) = rowAdd (rowAdds row (ls.take i)) (hashZ (nth ls i)) 6 := by
  unfold rowAdds
  rw [List.take_succ_eq_append_getElem h, List.foldl_append, nth_lt h]; rfl
noncomputable def k_Add : Ab.Spec := con2 some some fun f ks objs => match filR objs f with
  | some (R, rv, row) => match ofList (keyD objs R) ks with
    | some ls => bnd ls.length 140737488355328 (if 0 < row.length ∧ row.length < 1099511627776 ∧ ∀ l ∈ ls, l.length < 140737488355328 then some (.tup [], if ls = [] then none else some (objs.set R (.cells (ints .u8 (rowAdds row ls)) rv), R)) else none)
    | none => none
  | none => none
noncomputable def T_Add : CallF := withF T_Has 11 k_Add
theorem T_Add_ok : CallOk Try.prog T_Add := con_ofW (A := annOf [] [] [] false [32]) fit T_Has_ok (fn := Try.f11) (by kernel_rfl) (by kernel_rfl) (by
  intro args objs r h0
  have c_places : ∀ a o, T_Has 32 a o = k_places a o := fun _ _ => rfl
  have c_Hash : ∀ a o, T_Has 20 a o = k_Hash a o := fun _ _ => rfl
  obtain ⟨f, ks, _, _, rfl, hf, hks, hR⟩ := con2_inv h0
  cases hf; cases hks
  split at hR
  case h_2 => cases hR
  rename_i R rv row hfil
  split at hR
  case h_2 => cases hR
  rename_i ls hls
  obtain ⟨hl, hR⟩ := bnd_inv hR
  split at hR
  case isFalse => cases hR
  rename_i hc
  obtain ⟨hc1, hc2, hc3⟩ := hc
  cases hR
  obtain ⟨F, fv, rfl, g1, g2, g3⟩ := filR_inv hfil
  obtain ⟨cs, hv, hn', hcs⟩ := ofList_inv hls
  have vn := hv.size (P := Try.prog) u22
  have vi := hv.idx (P := Try.prog) u22 z23
  have vd := hv.dem
  obtain ⟨n, hn⟩ : ∃ n, n = objs.length := ⟨_, rfl⟩
  have hF := getObj_lt g1
  have hRl := getObj_lt g2
  have hFR : R ≠ F := fun q => by
    subst q
    have a1 := getObj_get g1
    have a2 := getObj_get g2
    rw [a1] at a2
    injection a2 with a2
    injection a2 with a2 a3
    cases row with
    | nil => simp at hc1
    | cons c row => simp [ints] at a2
  obtain ⟨N, hN⟩ : ∃ N, N = row.length := ⟨_, rfl⟩
  obtain ⟨S, hS⟩ : ∃ S : List Int → List AO, S = fun r => objs.set R (.cells (ints .u8 r) rv) := ⟨_, rfl⟩
  have hSl : ∀ r, (S r).length = n := fun r => by rw [hS, hn]; simp
  have hS0 : S row = objs := by
    rw [hS]
    refine List.ext_getElem? fun k => ?_
    show (objs.set R _)[k]? = _
    by_cases q : R = k
    · subst q; rw [List.getElem?_set_self hRl]; exact (getObj_get g2).symm
    · rw [List.getElem?_set_ne q]
  have sF : ∀ r X, Ab.getObj (S r ++ X) F fv = some [.ref R rv 0 N 1] := fun r X => by
    rw [getObj_app (by rw [hSl]; omega), hS]
    show Ab.getObj (objs.set R _) F fv = _
    rw [getObj_set_ne hFR, hN]; exact g1
  have sR : ∀ r X, Ab.getObj (S r ++ X) R rv = some (ints .u8 r) := fun r X => by
    rw [getObj_app (by rw [hSl]; omega), hS]
    exact getObj_set hRl
  have sS : ∀ r r' X, (S r ++ X).set R (.cells (ints .u8 r') rv) = S r' ++ X := fun r r' X => by
    rw [List.set_append_left _ _ (by rw [hSl]; omega), hS]
    show (objs.set R _).set R _ ++ X = _
    rw [List.set_set]
  have sK : ∀ r X v l, keyD objs R v = some l → ofIntsR .u8 (S r ++ X) v = some l := fun r X v l h => by rw [hS]; exact key_set h
  refine .go _ rfl rfl ?_
  rw [← hn]
  refine ToW.front (M := fun s => s.env 1 = ks ∧ s.env 2 = .ptr n 0 0 ∧ s.toks = [] ∧ s.objs = objs ++ [.cells [.ptr F fv 0] 0] ∧ s.low = n) ?_ ?_
  · simp -implicitDefEqProofs (disch := omega) [← hn]
    exact ⟨rfl, by simp, by simp, rfl, rfl, rfl⟩
  rintro s ⟨e1, e2, ht, ho, hlo⟩
  refine ToW.front (M := fun s => s.env 2 = .ptr n 0 0 ∧ s.env 8 = ks ∧ s.env 9 = .int .i64 ls.length ∧ s.env 10 = .int .i64 0 ∧ s.toks = [] ∧ s.objs = objs ++ [.cells [.ptr F fv 0] 0] ∧ s.low = n) ?_ ?_
  · simp -implicitDefEqProofs (disch := omega) [e1, e2, ht, ho, hlo, vn]
    exact ⟨rfl, by simp [e2], by simp, by simp, by simp, rfl, rfl, rfl⟩
  clear e1 e2 ht ho hlo
  clear s
  rintro s ⟨e2, e8, e9, e10, ht, ho, hlo⟩
  obtain ⟨I, hI⟩ : ∃ I : Nat → St → Prop, I = (fun (i : Nat) (z : St) => z.env 2 = .ptr n 0 0 ∧ z.env 8 = ks ∧ z.env 9 = .int .i64 ls.length ∧ z.env 10 = .int .i64 i ∧ z.toks = [] ∧ (∃ X, z.objs = S (rowAdds row (ls.take i)) ++ (.cells [.ptr F fv 0] 0 :: X)) ∧ z.low = if i = 0 then n else R) := ⟨_, rfl⟩
  refine ToW.block (ToW.up ls.length I (by rw [hI]; exact ⟨e2, e8, e9, e10, ht, ⟨[], by rw [ho]; show _ = S (rowAdds row []) ++ _; rw [show rowAdds row [] = row from rfl, hS0]⟩, by simpa using hlo⟩) ?_)
  clear e2 e8 e9 e10 ht ho hlo
  clear s
  intro i s hi hz
  rw [hI] at hz
  obtain ⟨e2, e8, e9, e10, ht, ⟨X, ho⟩, hlo⟩ := hz
  refine ToW.front (M := fun s => s.env 2 = .ptr n 0 0 ∧ s.env 8 = ks ∧ s.env 9 = .int .i64 ls.length ∧ s.env 10 = .int .i64 i ∧ s.env 11 = .bool (decide ((i : Int) < ls.length)) ∧ s.toks = [] ∧ s.objs = S (rowAdds row (ls.take i)) ++ (.cells [.ptr F fv 0] 0 :: X) ∧ s.low = if i = 0 then n else R) ?_ ?_
  · simp -implicitDefEqProofs (disch := omega) [e2, e8, e9, e10, ht, ho]
    exact ⟨rfl, by simp [e2], by simp [e8], by simp [e9], by simp [e10], by simp, rfl, rfl, hlo⟩
  clear e2 e8 e9 e10 ht ho hlo
  clear s
  rintro s ⟨e2, e8, e9, e10, e11, ht, ho, hlo⟩
  rcases Nat.lt_or_ge i ls.length with h | h
  case inr =>
    obtain rfl : i = ls.length := by omega
    have hnl : ¬ ((ls.length : Int) < ls.length) := by omega
    refine .of ?_
    simp -implicitDefEqProofs [e11]
    show (if s.low < objs.length then some (List.take objs.length s.objs, s.low) else none) = _
    rw [hlo, ← hn]
    have e0 : rowAdds row (ls.take ls.length) = rowAdds row ls := by rw [List.take_length]
    by_cases q : ls = []
    · have q2 : ls.length = 0 := by rw [q]; rfl
      rw [if_pos q2, if_neg (by omega), if_pos q]
    · have q2 : ¬ ls.length = 0 := fun z => q (List.eq_nil_of_length_eq_zero z)
      rw [if_neg q2, if_pos (by omega), if_neg q, ho, e0, List.take_append_of_le_length (by rw [hSl]; omega), List.take_of_length_le (by rw [hSl]; omega), hS]
  have hz : (i : Int) < ls.length := by omega
  refine ToW.front (M := fun s' => s = s') ?_ ?_
  · simp -implicitDefEqProofs [e11, hz, h]
    exact ⟨rfl, rfl⟩
  rintro _ rfl
  obtain ⟨kv, hc1', hce, hkd⟩ := hcs i h
  obtain ⟨hid, hkl⟩ := keyD_inv hkd
  obtain ⟨kd, kc, ki⟩ := bytesOk hkl
  obtain ⟨r, hr⟩ : ∃ r, r = rowAdds row (ls.take i) := ⟨_, rfl⟩
  have hrl : r.length = N := by rw [hr, rowAdds_len, hN]
  have hr8 : b8 r = true := by rw [hr]; exact rowAdds_b8 g3 hc1 _
  have hrs := rowAdds_take (row := row) h
  rw [← hr] at ho hrs
  obtain ⟨m, hm⟩ : ∃ m, m = n + (1 + X.length) := ⟨_, rfl⟩
  obtain ⟨Z, hZ⟩ : ∃ Z, Z = .cells [.ptr F fv 0] 0 :: X ++ [.cells [.ptr F fv 0] 0, .cells [kv] 0] := ⟨_, rfl⟩
  have hzl : (S r ++ (.cells [.ptr F fv 0] 0 :: X)).length = m := by rw [List.length_append, hSl, hm]; simp; omega
  have hml : (S r).length + (X.length + 1) = m := by rw [hSl, hm]; omega
  have oB : ∀ r X, Ab.getObj (S r ++ (.cells [.ptr F fv 0] 0 :: X)) n 0 = some [.ptr F fv 0] := fun r X => by
    have := hSl r
    rw [← this]; simp
  refine ToW.seq (ToW.block (ToW.front (M := fun s => s.env 2 = .ptr n 0 0 ∧ s.env 8 = ks ∧ s.env 9 = .int .i64 ls.length ∧ s.env 10 = .int .i64 i ∧ s.env 5 = kv ∧ s.toks = [] ∧ s.objs = S r ++ (.cells [.ptr F fv 0] 0 :: X) ∧ s.low = if i = 0 then n else R) ?_ ?_))
  · simp -implicitDefEqProofs (disch := omega) [e2, e8, e9, e10, ht, ho, vi, h, hc1', hce, kd]
    exact ⟨rfl, by simp [e2], by simp [e8], by simp [e9], by simp [e10], by simp, rfl, rfl, hlo⟩
  clear e2 e8 e9 e10 e11 ht ho hlo
  clear s
  rintro s ⟨e2, e8, e9, e10, e5, ht, ho, hlo⟩
  refine ToW.front (M := fun s => s.env 2 = .ptr n 0 0 ∧ s.env 8 = ks ∧ s.env 9 = .int .i64 ls.length ∧ s.env 10 = .int .i64 i ∧ s.env 16 = .fn (.func 47) [] [.ptr (m + 1) 0 0, .ptr m 0 0] ∧ s.toks = [] ∧ s.objs = S r ++ Z ∧ s.low = if i = 0 then n else R) ?_ ?_
  · have kp : k_places [.ptr F fv 0, kv] (S r ++ (.cells [.ptr F fv 0] 0 :: X)) = some (.fn (.func 47) [] [.ptr (m + 1) 0 0, .ptr m 0 0], some (S r ++ Z, m)) := by
      simp [-isDef_eq, -cellsOf_eq, k_places, con2, kd, kc, ki, hZ, pre_pos, hml]
    have q1 : ¬ m < n := by omega
    have q2 : ¬ m < s.low := by rw [hlo]; split <;> omega
    simp -implicitDefEqProofs (disch := omega) [e2, e8, e9, e10, e5, ht, ho, kd, oB, c_places, kp, q1, q2]
    exact ⟨rfl, by simp [e2], by simp [e8], by simp [e9], by simp [e10], by simp, rfl, rfl, hlo⟩
  clear e2 e8 e9 e10 e5 ht ho hlo
  clear s
  rintro s ⟨e2, e8, e9, e10, e16, ht, ho, hlo⟩
  obtain ⟨l, hll⟩ : ∃ l, l = nth ls i := ⟨_, rfl⟩
  have hlm := hc3 _ (nth_mem h)
  rw [← hll] at hlm hkd hrs hkl
  obtain ⟨H, hH⟩ : ∃ H, H = hashZ l := ⟨_, rfl⟩
  rw [← hH] at hrs
  have hN0 : 0 < N := by omega
  have zl : ∀ r, (S r ++ Z).length = m + 2 := fun r => by rw [List.length_append, hSl, hZ, hm]; simp; omega
  have zB : ∀ r, Ab.getObj (S r ++ Z) n 0 = some [.ptr F fv 0] := fun r => by rw [hZ]; have := hSl r; rw [← this]; simp
  have zm : ∀ r, Ab.getObj (S r ++ Z) m 0 = some [.ptr F fv 0] ∧ Ab.getObj (S r ++ Z) (m + 1) 0 = some [kv] := fun r => by
    have e : S r ++ Z = (S r ++ (.cells [.ptr F fv 0] 0 :: X)) ++ [.cells [.ptr F fv 0] 0, .cells [kv] 0] := by rw [hZ]; simp
    have e2 : (S r ++ (AO.cells [.ptr F fv 0] 0 :: X)).length = m := by rw [List.length_append, hSl, hm]; simp; omega
    rw [e, ← e2]
    exact ⟨by rw [getObj_end]; simp, by rw [getObj_add]; simp⟩
  refine ToW.block (ToW.cut (CutOk.ofS (SemC.rangeFunc (A' := annOf [] [] [] false []) (objs' := S (rowAdd r H 6) ++ Z) (low' := R) (j := .norm) fit T_Has_ok (fn := Try.f47) (by kernel_rfl) clo_body (by kernel_rfl) e16 (by kernel_rfl) (by kernel_rfl) ?_) (fun x h => (by cases h))) ?_)
  · intro L
    rw [ho]
    have key : ∀ Y : Rd, YLow n Y → (∀ k, k < 6 → Y (yArgs (hashZ l) N k) (S (rowAdd r H k) ++ Z) .norm (S (rowAdd r H (k + 1)) ++ Z) R) →
        ∃ e s', (e = Ex.norm ∨ e = Ex.ret) ∧ SemL Try.prog (annOf [] [] [] false []) T_Has 47 n L Y clo ⟨entryEnv [.fn (.yield L.l) [] [], .ptr (m + 1) 0 0, .ptr m 0 0], [], S r ++ Z, (S r ++ Z).length⟩ (e, s', .norm) ∧ s'.objs = S (rowAdd r H 6) ++ Z ∧ s'.low = R := by
      intro Y hY h1
      obtain ⟨e, s', j, hsem, he, hj, ho', hl'⟩ := clo_ok (T := T_Has) (base := n) (L := L) (Oi := fun k => S (rowAdd r H k) ++ Z) (yl := fun _ => R) (lo := fun k => if k = 0 then m + 2 else R) (K := 6) (jx := .ret) (Ox := []) (yx := 0) (KB := m + 1) (FB := m) (F := F) (fv := fv) (R := R) (rv := rv) (N := N) (kv := kv) (l := l) T_Has_ok c_Hash hY hN0 (by omega) hlm (Nat.le_refl _) (fun i _ => ⟨(zm _).1, sF _ _⟩) (zm _).2 kd (sK _ _ _ _ hkd) h1 (zl _).symm (fun k _ => by
        rw [if_neg (by omega)]
        split <;> split <;> omega) (fun h => absurd h (by omega))
      rw [if_neg (by omega)] at hj ho' hl'
      exact ⟨e, s', he, by rw [hj] at hsem; exact hsem, ho', by rw [hl']; rfl⟩
    refine key _ (roundY_low T_Has_ok) ?_
    intro k hk
    obtain ⟨p, hp⟩ : ∃ p, p = plP H N k := ⟨_, rfl⟩
    have hpl : p < 8 * N := by
      have := pl_in (row := row) (by omega) H k
      rw [← hN] at this
      rw [hp]; exact this
    obtain ⟨rk, hrk⟩ : ∃ rk, rk = rowAdd r H k := ⟨_, rfl⟩
    have hrkl : rk.length = N := by rw [hrk, rowAdd_len, hrl]
    obtain ⟨q, hq⟩ : ∃ q, q = p / 8 := ⟨_, rfl⟩
    obtain ⟨c, hcc⟩ : ∃ c, c = nth rk q := ⟨_, rfl⟩
    have hql : q < rk.length := by omega
    have hqN : q < N := by omega
    have hstep : rowAdd r H (k + 1) = rk.set q (orC c (p % 8)) := by
      rw [rowAdd, ← hrk, hrl]
      show rk.set (plP H N k / 8) (orC (nth rk (plP H N k / 8)) (plP H N k % 8)) = _
      rw [← hp, ← hq, ← hcc]
    rw [← hrk, hstep]
    have hya : yArgs (hashZ l) N k = [.int .i64 (q : Int), .int .u8 (2 ^ (p % 8))] := by rw [yArgs, ← hH, ← hp, ← hq]
    rw [hya]
    have hset := intsS (k := .u8) (c := orC c (p % 8)) hql
    have hix : indexV Try.prog 23 (.ref R rv 0 N 1) (.int .i64 (q : Int)) = some (.ptr R rv q) := by simp [hqN]
    have hlx : loadV Try.prog 5 (S rk ++ Z) (.ptr R rv q) = some (.int .u8 c) := by
      have e : (ints .u8 rk)[q]? = some (.int .u8 (nth rk q)) := map_nth hql
      simp [sR, e, ← hcc]
    refine roundY_of2 (M := fun s => s.env 2 = .ptr n 0 0 ∧ s.env 6 = .int .i64 (q : Int) ∧ s.env 7 = .int .u8 (2 ^ (p % 8)) ∧ s.toks = [] ∧ s.objs = S rk ++ Z ∧ s.low = (S rk ++ Z).length) rfl ?_ ?_
    · have hpe : parEnv (fun d => demote (s.env d)) #[17, 18].toList [.int .i64 (q : Int), .int .u8 (2 ^ (p % 8))] = Ab.put (Ab.put (fun d => demote (s.env d)) (some 17) (.int .i64 (q : Int))) (some 18) (.int .u8 (2 ^ (p % 8))) := rfl
      rw [hpe]
      simp -implicitDefEqProofs (disch := omega)
      exact ⟨rfl, by simp [e2], by simp, by simp, rfl, rfl, by simp⟩
    rintro z ⟨f2, f6, f7, ft, fo, fl⟩
    have ho' : Go.bits .or .u8 c (2 ^ (p % 8)) = orC c (p % 8) := rfl
    have hq1 : q + 1 ≤ N := hqN
    have hlt : R < (S rk).length + Z.length := by rw [hSl]; omega
    simp -implicitDefEqProofs (disch := omega) [f2, f6, f7, ft, fo, fl, zB, sF, hix, hlx, ho', sR, hset, hrkl, hq1, hlt, sS]
    exact ⟨rfl, rfl, rfl⟩
  show ToW _ _ _ _ _ _ _ _
  refine .of ?_
  have wi : IntKind.i64.wrap ((i : Int) + 1) = (i : Int) + 1 := wrap_small (by omega) (by omega)
  simp -implicitDefEqProofs (disch := omega) [e10, wi]
  rw [hI]
  refine ⟨h, by simp [e2], by simp [e8], by simp [e9], by simp, ht, ⟨X ++ [.cells [.ptr F fv 0] 0, .cells [kv] 0], ?_⟩, ?_⟩
  · rw [hrs, hZ]; simp
  · show (if R < s.low then R else s.low) = if i + 1 = 0 then n else R
    rw [if_neg (show ¬ i + 1 = 0 by omega), hlo]
    by_cases q : i = 0
    · rw [if_pos q, if_pos (by omega)]
    · rw [if_neg q, if_neg (by omega)])

end Go.Proofs.Ytpfkebjjbhnehaa.B
set_option maxRecDepth 20000
set_option maxHeartbeats 1000000
namespace Go.Proofs.Ytpfkebjjbhnehaa.B
open Go Go.Ab
/-! ones -/
def cntC (c : Int) : Nat := cntB (bitsC c)
noncomputable def onesBody : Code := Try.f34.body.getD .skip
theorem onesBody_eq : Try.f34.body = some onesBody := by kernel_rfl
theorem ones_run (T : CallF) (objs : List AO) (n lo : Nat) : (List.range 256).map (fun c : Nat => (evalC Try.prog (annOf [] [] [] false []) T 34 n 20 onesBody ⟨entryEnv [.int .u8 (c : Int)], [], objs, lo⟩).map fun p => (p.1, p.2.env 2, p.2.toks, p.2.objs, p.2.low)) = (List.range 256).map (fun c : Nat => some (Ex.ret, V.int .i64 (cntC (c : Int)), [], objs, lo)) := by kernel_rfl
theorem ones_at (T : CallF) (objs : List AO) (n lo : Nat) {c : Nat} (h : c < 256) : ∃ e', EvC Try.prog (annOf [] [] [] false []) T 34 n onesBody ⟨entryEnv [.int .u8 (c : Int)], [], objs, lo⟩ (.ret, ⟨e', [], objs, lo⟩) ∧ e' 2 = .int .i64 (cntC (c : Int)) := by
  have h1 := congrArg (fun l => l[c]?) (ones_run T objs n lo)
  simp only [List.getElem?_map, List.getElem?_range h, Option.map_some] at h1
  have h1 := Option.some.inj h1
  cases h2 : evalC Try.prog (annOf [] [] [] false []) T 34 n 20 onesBody ⟨entryEnv [.int .u8 (c : Int)], [], objs, lo⟩ with
  | none => rw [h2] at h1; cases h1
  | some p =>
    rw [h2] at h1
    obtain ⟨e, env, tk, ob, low⟩ := p
    simp only [Option.map_some, Option.some.injEq, Prod.mk.injEq] at h1
    obtain ⟨rfl, a2, rfl, rfl, rfl⟩ := h1
    exact ⟨env, ⟨20, h2⟩, a2⟩
noncomputable def k_Ones : Ab.Spec := con1 (ofInt .u8) fun c _ => if 0 ≤ c ∧ c < 256 then some (.int .i64 (cntC c), none) else none
noncomputable def T_Ones : CallF := withF T_Add 34 k_Ones
theorem T_Ones_ok : CallOk Try.prog T_Ones := con_of (A := annOf [] [] [] false []) fit T_Add_ok (fn := Try.f34) (by kernel_rfl) (by kernel_rfl) (by
  intro args objs r h0
  obtain ⟨_, c, rfl, hc, hR⟩ := con1_inv h0
  obtain rfl := ofInt_inv hc
  split at hR
  case isFalse => cases hR
  rename_i hb
  cases hR
  obtain ⟨m, rfl⟩ := Int.eq_ofNat_of_zero_le hb.1
  refine .go _ onesBody_eq rfl ?_
  obtain ⟨e', h1, h2⟩ := ones_at T_Add objs objs.length objs.length (c := m) (by omega)
  refine ⟨_, _, h1, ?_⟩
  simp [FinQ, h2])

theorem cntB_app (a b : List Bool) : cntB (a ++ b) = cntB a + cntB b := by unfold cntB; rw [List.filter_append, List.length_append]
theorem cnt_row {row : List Int} {i : Nat} (h : i < row.length) : cntB (bitsZ (row.take (i + 1))) = cntB (bitsZ (row.take i)) + cntC (nth row i) := by
  rw [List.take_succ_eq_append_getElem h, nth_lt h]
  have e : ∀ a b, bitsZ (a ++ b) = bitsZ a ++ bitsZ b := fun a b => by simp [bitsZ]
  rw [e, cntB_app]
  simp [bitsZ, cntC]
theorem cntC_le (c : Int) : cntC c ≤ 8 := by have := cntB_le (bitsC c); rw [bitsC_len] at this; exact this
theorem filF {objs : List AO} {v : V} {R rv : Nat} {row : List Int} (h : filR objs v = some (R, rv, row)) : ∃ F fv, v = .ptr F fv 0 ∧ Ab.getObj objs F fv = some [.ref R rv 0 row.length 1] ∧ Ab.getObj objs R rv = some (ints .u8 row) ∧ b8 row = true ∧ (∀ i, i < row.length → indexV Try.prog 23 (.ref R rv 0 row.length 1) (.int .i64 (i : Int)) = some (.ptr R rv i)) ∧ ∀ i, i < row.length → loadV Try.prog 5 objs (.ptr R rv i) = some (.int .u8 (nth row i)) := by
  obtain ⟨F, fv, rfl, g1, g2, g3⟩ := filR_inv h
  refine ⟨F, fv, rfl, g1, g2, g3, fun i hi => by simp [hi], fun i hi => ?_⟩
  have e : (ints .u8 row)[i]? = some (.int .u8 (nth row i)) := map_nth hi
  simp [g2, e]
noncomputable def k_Count : Ab.Spec := con1 some fun f objs => match filR objs f with | some (_, _, row) => bnd row.length 1099511627776 (some (.int .i64 (cntB (bitsZ row)), none)) | none => none
noncomputable def T_Count : CallF := withF T_Ones 16 k_Count
theorem T_Count_ok : CallOk Try.prog T_Count := con_of (A := annOf [] [] [] false []) fit T_Ones_ok (fn := Try.f16) (by kernel_rfl) (by kernel_rfl) (by
  intro args objs r h0
  have c_Ones : ∀ a o, T_Ones 34 a o = k_Ones a o := fun _ _ => rfl
  obtain ⟨f, _, rfl, hf, hR⟩ := con1_inv h0
  cases hf
  split at hR
  case h_2 => cases hR
  rename_i R rv row hfil
  obtain ⟨hl, hR⟩ := bnd_inv hR
  cases hR
  obtain ⟨F, fv, rfl, g1, g2, g3, vi, vl⟩ := filF hfil
  refine .go _ rfl rfl ?_
  simp -implicitDefEqProofs (disch := omega) [g1]
  obtain ⟨I, hI⟩ : ∃ I : Nat → St → Prop, I = (fun (i : Nat) (z : St) => z.env 9 = .ref R rv 0 row.length 1 ∧ z.env 10 = .int .i64 row.length ∧ z.env 11 = .int .i64 i ∧ z.env 3 = .int .i64 (cntB (bitsZ (row.take i))) ∧ z.toks = [] ∧ z.low = objs.length ∧ z.objs = objs) := ⟨_, rfl⟩
  refine .up row.length I (by rw [hI]; exact ⟨by simp, by simp, by simp, by simp [bitsZ, cntB], rfl, rfl, rfl⟩) ?_
  intro i z hi hz
  rw [hI] at hz
  obtain ⟨e9, e10, e11, e3, ht, hlo, ho⟩ := hz
  rcases Nat.lt_or_ge i row.length with h | h
  · have hc := cnt_row h
    have hcl := cntB_le (bitsZ (row.take i))
    rw [bitsZ_len, List.length_take] at hcl
    have hc8 := cntC_le (nth row i)
    obtain ⟨c0, c1⟩ := b8_iff.1 g3 _ (nth_mem h)
    have w : IntKind.i64.wrap ((cntB (bitsZ (row.take i)) : Int) + (cntC (nth row i) : Int)) = (cntB (bitsZ (row.take i)) : Int) + (cntC (nth row i) : Int) := wrap_small (by omega) (by omega)
    have ix := vi i h
    have lx := vl i h
    simp -implicitDefEqProofs (disch := omega) [e9, e10, e11, e3, ht, hlo, ho, h, ix, lx, c_Ones, k_Ones, c0, c1, w, wrap_small]
    rw [hI]
    exact ⟨by simp [e9], by simp [e10], by simp, by simp [hc], by simp, by simp, by simp⟩
  · obtain rfl : i = row.length := by omega
    simp -implicitDefEqProofs (disch := omega) [e9, e10, e11, e3, ht, hlo, ho])

end Go.Proofs.Ytpfkebjjbhnehaa.B

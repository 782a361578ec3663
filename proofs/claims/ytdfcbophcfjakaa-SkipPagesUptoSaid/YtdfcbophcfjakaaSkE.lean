import Derived.Test.YtdfcbophcfjakaaSkD
set_option linter.unusedSimpArgs false
set_option linter.unusedVariables false
set_option linter.unusedSectionVars false
set_option maxRecDepth 20000
set_option maxHeartbeats 1000000
namespace Go.Proofs.Ytdfcbophcfjakaa.B
open Go Go.Ab
/-! what puts do, plain -/
theorem low_take (k : List Int) : ∀ m : Kvs, lowM m k = m.take (aheadN (m.map (·.1)) k) ∧ highM m k = m.drop (aheadN (m.map (·.1)) k)
  | [] => ⟨rfl, rfl⟩
  | e :: m => by
    obtain ⟨h1, h2⟩ := low_take k m
    unfold lowM at h1 ⊢
    unfold highM at h2 ⊢
    by_cases h : cmpZ e.1 k < 0
    · have hd : lessK k e = true := decide_eq_true h
      simp [hd, aheadN, h, h1, h2]
    · have hd : lessK k e = false := decide_eq_false h
      simp [hd, aheadN, h]
theorem put_keys (m : Kvs) (k : List Int) (v : Int) : (putM m k v).map (·.1) = ins (m.map (·.1)) k := by
  obtain ⟨h1, h2⟩ := low_take k m
  obtain ⟨a, ha⟩ : ∃ a, a = aheadN (m.map (·.1)) k := ⟨_, rfl⟩
  have hle := ahead_le (m.map (·.1)) k
  rw [← ha] at h1 h2 hle
  rw [List.length_map] at hle
  unfold putM ins
  rw [h1, ← ha, List.length_map]
  rcases Nat.lt_or_ge a m.length with h | h
  · have hd : m.drop a = nth m a :: m.drop (a + 1) := dropN h
    have hn : nth (m.map (·.1)) a = (nth m a).1 := nth_map h
    have hi : isM m k = decide ((nth m a).1 = k) := by unfold isM; rw [h2, hd]
    rw [hi, h2, hn]
    by_cases e : (nth m a).1 = k
    · rw [decide_eq_true e, if_pos rfl, if_pos ⟨h, e⟩, hd]
      conv => rhs; rw [← List.take_append_drop a m, hd]
      simp [e]
    · rw [decide_eq_false e, if_neg (by simp), if_neg (fun q => e q.2)]
      simp
  · have hd : m.drop a = [] := List.drop_eq_nil_of_le h
    have hi : isM m k = false := by unfold isM; rw [h2, hd]
    rw [hi, if_neg (by simp), if_neg (fun q => by omega), h2]
    simp
def mPut (ss : List (List Int)) (d : Int) : Nat → Kvs
  | 0 => []
  | i + 1 => putM (mPut ss d i) (nth ss i) ((i : Int) + d)
theorem mPut_keys (ss : List (List Int)) (d : Int) : ∀ i, (mPut ss d i).map (·.1) = idx ss i
  | 0 => rfl
  | i + 1 => by rw [mPut, put_keys, mPut_keys ss d i]; rfl
theorem mPut_len (ss : List (List Int)) (d : Int) {i : Nat} (h : i ≤ ss.length) : (mPut ss d i).length ≤ i := by
  have := (idx_facts ss i h).2.1
  rw [← mPut_keys ss d i, List.length_map] at this
  exact this
def lookM (m : Kvs) (a : List Int) : Option Int := (m.find? fun e => decide (e.1 = a)).map (·.2)
theorem look_app (x y : Kvs) (a : List Int) : lookM (x ++ y) a = (lookM x a).or (lookM y a) := by
  unfold lookM
  rw [List.find?_append]
  cases x.find? (fun e => decide (e.1 = a)) <;> rfl
theorem look_cons (e : List Int × Int) (y : Kvs) (a : List Int) : lookM (e :: y) a = if e.1 = a then some e.2 else lookM y a := by
  unfold lookM
  by_cases h : e.1 = a
  · rw [List.find?_cons_of_pos (by simpa using h), if_pos h]; rfl
  · rw [List.find?_cons_of_neg (by simpa using h), if_neg h]
theorem look_none {x : Kvs} {a : List Int} (h : ∀ e ∈ x, e.1 ≠ a) : lookM x a = none := by
  unfold lookM
  rw [List.find?_eq_none.2 (fun e he => by simpa using h e he)]; rfl
theorem low_high (m : Kvs) (k : List Int) : lowM m k ++ highM m k = m := List.takeWhile_append_dropWhile
theorem low_less {m : Kvs} {k : List Int} : ∀ e ∈ lowM m k, cmpZ e.1 k < 0 := fun e he => by
  unfold lowM at he
  have := List.all_eq_true.1 (List.all_takeWhile (l := m) (p := lessK k)) e he
  exact of_decide_eq_true this
theorem low_ne {m : Kvs} {k : List Int} : ∀ e ∈ lowM m k, e.1 ≠ k := fun e he q => by
  have := low_less e he
  rw [q, cmpZ_self] at this; omega
theorem high_not {m : Kvs} {k : List Int} {e : List Int × Int} {l : Kvs} (h : highM m k = e :: l) : ¬ cmpZ e.1 k < 0 := by
  have h1 := (low_take k m).2
  rw [h] at h1
  obtain ⟨a, ha⟩ : ∃ a, a = aheadN (m.map (·.1)) k := ⟨_, rfl⟩
  rw [← ha] at h1
  have hl : a < m.length := by
    rcases Nat.lt_or_ge a m.length with q | q
    · exact q
    · rw [List.drop_eq_nil_of_le q] at h1; cases h1
  rw [dropN hl] at h1
  cases h1
  have := ahead_not (s := k) (ts := m.map (·.1)) (by rw [← ha, List.length_map]; exact hl)
  rw [← ha, nth_map hl] at this
  exact this
theorem is_look {m : Kvs} (hS : Srt (m.map (·.1))) (a : List Int) : isM m a = (lookM m a).isSome ∧ valM m a = (lookM m a).getD 0 := by
  have e : lookM m a = lookM (highM m a) a := by
    conv => lhs; rw [← low_high m a]
    rw [look_app, look_none low_ne]; rfl
  rw [e]
  unfold isM valM
  cases hh : highM m a with
  | nil => exact ⟨rfl, rfl⟩
  | cons x l =>
    have h1 := high_not hh
    rw [look_cons]
    by_cases hx : x.1 = a
    · rw [if_pos hx]; exact ⟨decide_eq_true hx, if_pos hx⟩
    · have h2 : cmpZ a x.1 < 0 := by
        have := cmpZ_swap x.1 a
        have h3 : cmpZ x.1 a ≠ 0 := fun q => hx (cmpZ_zero q)
        omega
      have hl : lookM l a = none := look_none fun y hy q => by
        have h4 : (m.map (·.1)).Pairwise fun a b => cmpZ a b < 0 := hS
        rw [← low_high m a, hh, List.map_append, List.pairwise_append, List.map_cons, List.pairwise_cons] at h4
        have h5 := h4.2.1.1 y.1 (List.mem_map_of_mem hy)
        have h6 := cmpZ_trans h2 h5
        rw [q, cmpZ_self] at h6; omega
      rw [if_neg hx, hl]
      exact ⟨decide_eq_false hx, if_neg hx⟩
theorem look_put (m : Kvs) (k : List Int) (v : Int) (a : List Int) : lookM (putM m k v) a = if k = a then some v else lookM m a := by
  unfold putM
  rw [look_app, look_cons]
  by_cases h : k = a
  · subst h
    rw [look_none low_ne, if_pos rfl, if_pos rfl]; rfl
  · simp only [if_neg h]
    conv => rhs; rw [← low_high m k]
    rw [look_app]
    congr 1
    split
    · rename_i hi
      unfold isM at hi
      cases hh : highM m k with
      | nil => rfl
      | cons x l =>
        rw [hh] at hi
        have hx : x.1 = k := of_decide_eq_true hi
        rw [look_cons, if_neg (by rw [hx]; exact h)]; rfl
    · rfl
def lastV (ss : List (List Int)) (a : List Int) : Nat → Int
  | 0 => 0
  | i + 1 => if nth ss i = a then (i : Int) + 1 else lastV ss a i
theorem lastV_succ (ss : List (List Int)) (a : List Int) (i : Nat) : lastV ss a (i + 1) = if nth ss i = a then (i : Int) + 1 else lastV ss a i := rfl
theorem last_nonneg (ss : List (List Int)) (a : List Int) : ∀ i, 0 ≤ lastV ss a i ∧ lastV ss a i ≤ i
  | 0 => ⟨Int.le_refl _, Int.le_refl _⟩
  | i + 1 => by
    have := last_nonneg ss a i
    unfold lastV; split <;> omega
theorem mPut_look (ss : List (List Int)) (a : List Int) : ∀ i, lookM (mPut ss 1 i) a = if 0 < lastV ss a i then some (lastV ss a i) else none
  | 0 => rfl
  | i + 1 => by
    have := (last_nonneg ss a i).1
    have e : lastV ss a (i + 1) = if nth ss i = a then (i : Int) + 1 else lastV ss a i := rfl
    rw [mPut, look_put, mPut_look ss a i, e]
    by_cases h : nth ss i = a
    · rw [if_pos h, if_pos h, if_pos (by omega)]
    · rw [if_neg h, if_neg h]
theorem mPut_get (ss : List (List Int)) (a : List Int) {i : Nat} (hi : i ≤ ss.length) : isM (mPut ss 1 i) a = decide (0 < lastV ss a i) ∧ valM (mPut ss 1 i) a = lastV ss a i := by
  obtain ⟨h1, h2⟩ := is_look (m := mPut ss 1 i) (by rw [mPut_keys]; exact (idx_facts ss i hi).1) a
  rw [h1, h2, mPut_look]
  have := last_nonneg ss a i
  by_cases h : 0 < lastV ss a i
  · rw [if_pos h]; exact ⟨(decide_eq_true h).symm, rfl⟩
  · rw [if_neg h]; exact ⟨(decide_eq_false h).symm, by show (0 : Int) = _; omega⟩
theorem range_all (m : Kvs) : rangeM m [] [] = m := by
  unfold rangeM
  have h1 : highM m [] = m := by
    cases m with
    | nil => rfl
    | cons e m =>
      unfold highM
      refine List.dropWhile_cons_of_neg ?_
      have : ¬ cmpZ e.1 [] < 0 := by cases e.1 <;> (unfold cmpZ; omega)
      simp [lessK, this]
  rw [h1]
  have : ∀ l : Kvs, l.takeWhile (belowH []) = l := fun l => by
    induction l with
    | nil => rfl
    | cons e l ih => rw [List.takeWhile_cons_of_pos (by simp [belowH]), ih]
  exact this m

end Go.Proofs.Ytdfcbophcfjakaa.B
set_option maxRecDepth 20000
set_option maxHeartbeats 1000000
namespace Go.Proofs.Ytdfcbophcfjakaa.B
open Go Go.Ab
/-! SkipHolds -/
theorem put_any {O : List AO} {b : Nat} {m : Kvs} {hs : List Int} {tk : Nat} {hg : Int} {kv : V} {k : List Int} {v : Int} (M : SkM O b m hs tk hg) (hk : ofIntsR .u8 O kv = some k) (k8 : b8 k = true) (kl : k.length < 140737488355000) (hml : m.length < 3999990) (htk : tk < 3999990) :
    ∃ O' low' tk' hg', k_Put [.ptr (b + 1) 0 0, kv, .int .i64 v] O = some (.bool (!isM m k), some (O', low')) ∧ SkM O' b (putM m k v) hs tk' hg' ∧ tk' ≤ tk + 1 ∧ FrB b O O' := by
  obtain ⟨r, n, p⟩ := s_Put (v := v) M hk k8 kl hml htk
  obtain ⟨O', low', rfl, M', F⟩ := p _ _ _ _ _ _ _ _ rfl M hk
  refine ⟨O', low', _, _, n, M', ?_, F⟩
  have := tkN_le hs tk
  split <;> omega
noncomputable def k_SkipHolds : Ab.Spec := fun args objs => match args, objs with
  | [v0, v1, v2], [] => match ofInts .i64 v0, ofList (ofInts .u8) v1, ofInts .u8 v2 with
    | some la, some ss, some ask => pre (la.length < 17592186044000 ∧ ss.length < 3999990 ∧ txOk ss ∧ b8 ask = true ∧ ask.length < 140737488355000) (some (.bool true, none))
    | _, _, _ => none
  | _, _ => none
noncomputable def T_SkipHolds : CallF := withF T_SkipHeights 5 k_SkipHolds
theorem T_SkipHolds_ok : CallOk Try.prog T_SkipHolds := con_ofW (A := annOf [] [] [] false [7, 17, 13]) fit T_SkipHeights_ok (fn := Try.f5) (by kernel_rfl) (by kernel_rfl) (by
  intro args objs r h0
  have c_aliveA : ∀ a o, T_SkipHeights 8 a o = k_aliveA a o := fun _ _ => rfl
  have c_New : ∀ a o, T_SkipHeights 7 a o = k_New a o := fun _ _ => rfl
  have c_Put : ∀ a o, T_SkipHeights 17 a o = k_Put a o := fun _ _ => rfl
  have c_Get : ∀ a o, T_SkipHeights 20 a o = k_Get a o := fun _ _ => rfl
  have c_Range : ∀ a o, T_SkipHeights 13 a o = k_Range a o := fun _ _ => rfl
  have c_Len18 : ∀ a o, T_SkipHeights 10 a o = k_Len18 a o := fun _ _ => rfl
  have c_SameR : ∀ a o, T_SkipHeights 19 a o = k_SameR a o := fun _ _ => rfl
  have c_Same10H : ∀ a o, T_SkipHeights 14 a o = k_Same10H a o := fun _ _ => rfl
  have c_Index10 : ∀ a o, T_SkipHeights 16 a o = k_Index10 a o := fun _ _ => rfl
  unfold k_SkipHolds at h0
  split at h0
  case h_2 => cases h0
  rename_i v0 v1 v2
  split at h0
  case h_2 => cases h0
  rename_i la ss ask h0a h1a h2a
  obtain ⟨⟨hla, hss, hok, a8, al⟩, hR⟩ := pre_inv h0
  cases hR
  obtain ⟨d0, -⟩ := is8 (objs := []) (ofIntsR_of h0a)
  obtain ⟨d1, nu, cs, iu, cu⟩ := tx h1a
  obtain ⟨d2, -⟩ := bs h2a
  obtain ⟨r1, n1, p1⟩ := s_New (objs := []) h0a hla
  obtain ⟨O1, w1, rfl, -, M1, l1⟩ := p1 _ _ rfl h0a
  have n1 : k_New [v0] [] = some (.ptr 1 0 0, some (O1, w1)) := n1
  obtain ⟨hs, hhs⟩ : ∃ h, h = la.map clipH := ⟨_, rfl⟩
  have M1 : SkM O1 0 [] (la.map clipH) 0 0 := M1
  rw [← hhs] at M1
  refine .go _ rfl rfl ?_
  refine ToW.front (M := fun s => s.env 0 = v0 ∧ s.env 1 = v1 ∧ s.env 2 = v2 ∧ s.toks = [] ∧ s.objs = []) ?_ ?_
  · simp
    exact ⟨rfl, by simp, by simp, by simp, rfl, rfl⟩
  rintro s ⟨e0, e1, e2, ht, ho⟩
  refine ToW.front (M := fun s => s.env 1 = v1 ∧ s.env 2 = v2 ∧ s.env 7 = .ptr 1 0 0 ∧ s.toks = [] ∧ s.objs = O1) ?_ ?_
  · simp -implicitDefEqProofs (disch := omega) [e0, e1, e2, ht, ho, d0, c_New, n1]
    exact ⟨rfl, by simp [e1], by simp [e2], by simp, rfl, rfl⟩
  clear e0 e1 e2 ht ho
  clear s
  rintro s ⟨e1, e2, e7, ht, ho⟩
  refine ToW.front (M := fun s => s.env 1 = v1 ∧ s.env 2 = v2 ∧ s.env 7 = .ptr 1 0 0 ∧ s.toks = [] ∧ s.objs = O1) ?_ ?_
  · simp -implicitDefEqProofs (disch := omega) [e1, e2, e7, ht, ho, nilEq, nilFit, c_aliveA, aliveA]
    exact ⟨rfl, by simp [e1], by simp [e2], by simp [e7], rfl, rfl⟩
  clear e1 e2 e7 ht ho
  clear s
  rintro s ⟨e1, e2, e7, ht, ho⟩
  -- all put in
  refine ToW.front (M := fun s => s.env 1 = v1 ∧ s.env 2 = v2 ∧ s.env 7 = .ptr 1 0 0 ∧ s.toks = [] ∧ ∃ tk hg, SkM s.objs 0 (mPut ss 1 ss.length) hs tk hg) ?_ ?_
  · simp -implicitDefEqProofs (disch := omega) [e1, e2, e7, ht, ho, d1, nu]
    obtain ⟨I, hI⟩ : ∃ I : Nat → St → Prop, I = (fun (i : Nat) (z : St) => z.env 1 = v1 ∧ z.env 2 = v2 ∧ z.env 7 = .ptr 1 0 0 ∧ z.env 28 = v1 ∧ z.env 29 = .int .i64 ss.length ∧ z.env 30 = .int .i64 i ∧ z.toks = [] ∧ ∃ tk hg, tk ≤ i ∧ SkM z.objs 0 (mPut ss 1 i) hs tk hg) := ⟨_, rfl⟩
    refine .up ss.length I (by rw [hI]; exact ⟨by simp [e1], by simp [e2], by simp [e7], by simp, by simp, by simp, rfl, 0, 0, by omega, M1⟩) ?_
    clear e1 e2 e7 ht ho
    clear s
    intro i s hi hz
    rw [hI] at hz
    obtain ⟨e1, e2, e7, e28, e29, e30, ht, tk, hg, htk, N1⟩ := hz
    rcases Nat.lt_or_ge i ss.length with h | h
    · obtain ⟨c, c1, c1', c2⟩ := cu i h
      obtain ⟨cd, -⟩ := bs c2
      have x1 := iu .i64 i (by omega) (by omega)
      rw [Int.toNat_natCast] at x1
      obtain ⟨k8, kl⟩ := hok _ (nth_mem h)
      have hmi := mPut_len ss 1 (i := i) (by omega)
      obtain ⟨O', w', tk', hg', kp, N1', ht', F⟩ := put_any (v := (i : Int) + 1) N1 (ofIntsR_of c2) k8 (by omega) (by omega) (by omega)
      have N1' : SkM O' 0 (mPut ss 1 (i + 1)) hs tk' hg' := N1'
      obtain ⟨bb, hbb⟩ : ∃ bb, bb = !isM (mPut ss 1 i) (nth ss i) := ⟨_, rfl⟩
      have kp : k_Put [.ptr 1 0 0, c, .int .i64 ((i : Int) + 1)] s.objs = some (.bool bb, some (O', w')) := by rw [hbb]; exact kp
      simp -implicitDefEqProofs (disch := omega) [e1, e2, e7, e28, e29, e30, ht, h, x1, c1, c1', cd, c_Put, kp, wrap_small]
      rw [hI]
      exact ⟨by simp [e1], by simp [e2], by simp [e7], by simp [e28], by simp [e29], by simp, rfl, tk', hg', by omega, N1'⟩
    · obtain rfl : i = ss.length := by omega
      simp -implicitDefEqProofs (disch := omega) [e1, e2, e7, e28, e29, e30, ht]
      exact ⟨rfl, by simp [e1], by simp [e2], by simp [e7], rfl, tk, hg, N1⟩
  clear e1 e2 e7 ht ho
  clear s
  rintro s ⟨e1, e2, e7, ht, tk, hg, N1⟩
  obtain ⟨m, hm⟩ : ∃ m, m = mPut ss 1 ss.length := ⟨_, rfl⟩
  obtain ⟨q1, q2⟩ := mPut_get ss ask (i := ss.length) (Nat.le_refl _)
  have mk := mPut_keys ss 1 ss.length
  have hml := mPut_len ss 1 (Nat.le_refl ss.length)
  rw [← hm] at N1 q1 q2 mk hml
  obtain ⟨la0, la1⟩ := last_nonneg ss ask ss.length
  obtain ⟨O, hO⟩ : ∃ O, O = s.objs := ⟨_, rfl⟩
  have ho := hO.symm
  rw [← hO] at N1
  have ta : ∀ O, ofIntsR .u8 O v2 = some ask := fun O => ofIntsR_of h2a
  refine ToW.front (M := fun s => s.env 1 = v1 ∧ s.env 2 = v2 ∧ s.env 7 = .ptr 1 0 0 ∧ s.env 10 = .int .i64 0 ∧ s.toks = [] ∧ s.objs = O) ?_ ?_
  · simp -implicitDefEqProofs (disch := omega) [e1, e2, e7, ht, ho]
    exact ⟨rfl, by simp [e1], by simp [e2], by simp [e7], by simp, rfl, rfl⟩
  clear e1 e2 e7 ht ho hO
  clear s
  rintro s ⟨e1, e2, e7, e10, ht, ho⟩
  -- the last of ask
  refine ToW.front (M := fun s => s.env 1 = v1 ∧ s.env 2 = v2 ∧ s.env 7 = .ptr 1 0 0 ∧ s.env 10 = .int .i64 (lastV ss ask ss.length) ∧ s.toks = [] ∧ s.objs = O) ?_ ?_
  · simp -implicitDefEqProofs (disch := omega) [e1, e2, e7, e10, ht, ho, d1, nu]
    obtain ⟨I, hI⟩ : ∃ I : Nat → St → Prop, I = (fun (i : Nat) (z : St) => z.env 1 = v1 ∧ z.env 2 = v2 ∧ z.env 7 = .ptr 1 0 0 ∧ z.env 10 = .int .i64 (lastV ss ask i) ∧ z.env 41 = v1 ∧ z.env 42 = .int .i64 ss.length ∧ z.env 43 = .int .i64 i ∧ z.toks = [] ∧ z.objs = O) := ⟨_, rfl⟩
    refine .up ss.length I (by rw [hI]; exact ⟨by simp [e1], by simp [e2], by simp [e7], by simp [e10, lastV], by simp, by simp, by simp, rfl, rfl⟩) ?_
    clear e1 e2 e7 e10 ht ho
    clear s
    intro i s hi hz
    rw [hI] at hz
    obtain ⟨e1, e2, e7, e10, e41, e42, e43, ht, ho⟩ := hz
    rcases Nat.lt_or_ge i ss.length with h | h
    · obtain ⟨c, c1, c1', c2⟩ := cu i h
      obtain ⟨cd, -⟩ := bs c2
      have x1 := iu .i64 i (by omega) (by omega)
      rw [Int.toNat_natCast] at x1
      obtain ⟨k8, kl⟩ := hok _ (nth_mem h)
      have tc : ofIntsR .u8 O c = some (nth ss i) := ofIntsR_of c2
      have hl := lastV_succ ss ask i
      by_cases he : nth ss i = ask
      · rw [if_pos he] at hl
        simp -implicitDefEqProofs (disch := omega) [e1, e2, e7, e10, e41, e42, e43, ht, ho, h, x1, c1, c1', cd, d2, c_SameR, k_SameR, tc, ta, he, wrap_small]
        rw [hI]
        exact ⟨by simp [e1], by simp [e2], by simp [e7], by simp [hl], by simp [e41], by simp [e42], by simp, rfl, rfl⟩
      · rw [if_neg he] at hl
        simp -implicitDefEqProofs (disch := omega) [e1, e2, e7, e10, e41, e42, e43, ht, ho, h, x1, c1, c1', cd, d2, c_SameR, k_SameR, tc, ta, he, wrap_small]
        rw [hI]
        exact ⟨by simp [e1], by simp [e2], by simp [e7], by simp [e10, hl], by simp [e41], by simp [e42], by simp, rfl, rfl⟩
    · obtain rfl : i = ss.length := by omega
      simp -implicitDefEqProofs (disch := omega) [e1, e2, e7, e10, e41, e42, e43, ht, ho]
      exact ⟨rfl, by simp [e1], by simp [e2], by simp [e7], by simp [e10], rfl, rfl⟩
  clear e1 e2 e7 e10 ht ho
  clear s
  rintro s ⟨e1, e2, e7, e10, ht, ho⟩
  obtain ⟨la, hla⟩ : ∃ la, la = lastV ss ask ss.length := ⟨_, rfl⟩
  rw [← hla] at q1 q2 e10 la0 la1
  -- it is got
  obtain ⟨r2, n2, p2⟩ := s_Get N1 (ta O) a8 al
  obtain rfl := p2 _ _ _ _ _ _ _ rfl N1 (ta O)
  rw [q1, q2] at n2
  have n2 : k_Get [.ptr 1 0 0, v2] O = some (.tup [.int .i64 la, .bool (decide (0 < la))], none) := n2
  refine ToW.front (M := fun s => s.env 1 = v1 ∧ s.env 7 = .ptr 1 0 0 ∧ s.env 10 = .int .i64 la ∧ s.env 13 = .int .i64 la ∧ s.env 14 = .bool (decide (0 < la)) ∧ s.toks = [] ∧ s.objs = O) ?_ ?_
  · simp -implicitDefEqProofs (disch := omega) [e1, e2, e7, e10, ht, ho, d2, c_Get, n2]
    exact ⟨rfl, by simp [e1], by simp [e7], by simp [e10], by simp, by simp, rfl, rfl⟩
  clear e1 e2 e7 e10 ht ho
  clear s
  rintro s ⟨e1, e7, e10, e13, e14, ht, ho⟩
  refine ToW.front (M := fun s => s.env 1 = v1 ∧ s.env 7 = .ptr 1 0 0 ∧ s.toks = [] ∧ s.objs = O) ?_ ?_
  · by_cases h : 0 < la
    · simp -implicitDefEqProofs (disch := omega) [e1, e7, e10, e13, e14, ht, ho, h]
      exact ⟨rfl, by simp [e1], by simp [e7], rfl, rfl⟩
    · simp -implicitDefEqProofs (disch := omega) [e1, e7, e10, e13, e14, ht, ho, h]
      exact ⟨rfl, by simp [e1], by simp [e7], rfl, rfl⟩
  clear e1 e7 e10 e13 e14 ht ho
  clear s
  rintro s ⟨e1, e7, ht, ho⟩
  have hsT : shortT ss = true := shortT_iff.2 fun t ht => by have := (hok t ht).2; omega
  have tz : ∀ O, ofIntsR .u8 O .nils = some [] := fun O => ofIntsR_of rfl
  obtain ⟨r3, n3, p3⟩ := s_Range N1 (tz O) rfl (by decide) (tz O) rfl (by decide)
  obtain ⟨O4, w4, x, y, rfl, old4, nx, dx, dy⟩ := p3 _ _ _ _ _ _ _ _ _ rfl N1 (tz O) (tz O)
  rw [range_all] at dx dy
  have n3 : k_Range [.ptr 1 0 0, .nils, .nils] O = some (.tup [x, y], some (O4, w4)) := n3
  have N1 := N1.old old4
  obtain ⟨xl, xd, xt⟩ := told_len dx
  obtain ⟨yd, yl, -⟩ := is8 dy
  have yt := ints_ntup dy
  rw [List.length_map] at xl yl
  have kl := k_len N1
  have kl : k_Len18 [.ptr 1 0 0] O4 = some (.int .i64 m.length, none) := kl
  by_cases hbad : encBad ss = true
  · have kx : ∀ O, k_Index10 [v1] O = some (.tup [.nils, .nils, .int .i64 4], none) := fun O => by
      simp (disch := omega) [k_Index10, h1a, hsT, hbad]
    refine .of ?_
    simp -implicitDefEqProofs (disch := omega) [e1, e7, ht, ho, d1, c_Index10, kx, c_Range, n3, xd, xt, yd, yt, c_Len18, kl, xl, yl]
  · have hbad := Bool.eq_false_iff.2 hbad
    have kx : ∀ O, k_Index10 [v1] O = some (.tup [.lst .frozen (txV (idxX ss)) (idxX ss).length, .lst (.fresh 1 false) (ints .i64 (codesL (idxX ss) ss ss.length)) ss.length, .int .i64 0], none) := fun O => by
      simp (disch := omega) [k_Index10, h1a, hsT, hbad]
    obtain ⟨E, hE⟩ : ∃ E, E = idxX ss := ⟨_, rfl⟩
    have mk2 : m.map (·.1) = E := by rw [mk, hE]; rfl
    rw [mk2] at dx
    have hEl : E.length = m.length := by rw [← mk2, List.length_map]
    rw [← hE] at kx
    have hET : shortT E = true := shortT_iff.2 fun t ht => by
      rw [hE] at ht
      have := (hok t ((idx_facts ss ss.length (Nat.le_refl _)).2.2 t ht)).2
      omega
    have ks1 : k_Same10H [x, .lst .frozen (txV E) E.length] O4 = some (.bool true, none) := heldF_of (args' := [toldV O4 x, .lst .frozen (txV E) E.length]) rfl (by
      have h2 := txV_of (ss := E) rfl
      simp (disch := omega) [k_Same10, dx, h2, hET]) (by simp [norefs, nx, noref, txV_refs]) rfl
    rw [hEl] at ks1
    refine .of ?_
    simp -implicitDefEqProofs (disch := omega) [e1, e7, ht, ho, d1, c_Index10, kx, c_Range, n3, xd, xt, yd, yt, c_Len18, kl, xl, yl, c_Same10H, ks1, hEl])

end Go.Proofs.Ytdfcbophcfjakaa.B
set_option maxRecDepth 20000
set_option maxHeartbeats 1000000
namespace Go.Proofs.Ytdfcbophcfjakaa.B
open Go Go.Ab
/-! the statements over what is of bounded bulk -/
theorem bulk_mem {H : Type} {d : DataW H} : ∀ {l : List (DataW H)}, d ∈ l → Rows.uptoBulk d ≤ Rows.uptoBulkAll l
  | x :: l, h => by
    rcases List.mem_cons.1 h with rfl | q
    · simp only [Rows.uptoBulkAll]; omega
    · have := bulk_mem q; simp only [Rows.uptoBulkAll]; omega
theorem bulk_one {H : Type} (d : DataW H) : 1 ≤ Rows.uptoBulk d := by
  cases d with
  | lit l => cases l <;> simp [Rows.uptoBulk]
  | nil => simp [Rows.uptoBulk]
  | ptr d => simp [Rows.uptoBulk]
  | slice elems spare => simp [Rows.uptoBulk]
  | agg parts => simp [Rows.uptoBulk]
  | iface t d => simp [Rows.uptoBulk]
  | map entries => simp [Rows.uptoBulk]
  | held h => simp [Rows.uptoBulk]
theorem bulk_len {H : Type} (l : List (DataW H)) : l.length ≤ Rows.uptoBulkAll l := by
  induction l with
  | nil => simp [Rows.uptoBulkAll]
  | cons x r ih => have := bulk_one x; simp only [Rows.uptoBulkAll, List.length_cons]; omega
theorem bulkB {H : Type} : Bulk (Rows.uptoBulk (H := H)) where
  str bs := by simp only [Rows.uptoBulk]; omega
  ptr d := by simp only [Rows.uptoBulk]; omega
  len es sp := by have := bulk_len es; simp only [Rows.uptoBulk]; omega
  elem es sp d h := by have := bulk_mem h; simp only [Rows.uptoBulk]; omega
  part ps d h := by have := bulk_mem h; simp only [Rows.uptoBulk]; omega

theorem walk_SkipHolds {D n : Nat} {vs : List V} {args : Array Value} {W : World} (hS : ShpAll Try.prog D 1048576 n [22, 27, 30] vs) (hA : AR (top W) W vs args.toList) : Calls Try.prog 5 args W fun e W' => e = .returned (.bool true) ∧ Go.RowKit.Below W.heap.size W W' := by
  match vs, hS with
  | [v0, v1, v2], ⟨s0, s1, s2, _⟩ =>
    obtain ⟨la, d0, m0, -⟩ := in_i64s s0
    obtain ⟨ss, d1, m1, o1, hM⟩ := in_txOk s1
    obtain ⟨a, d2, b2, n2, -⟩ := in_bytes s2
    have hM : ss.length ≤ 1048576 := hM.resolve_left (by decide)
    refine whole fit T_SkipHolds_ok (fn := Try.f5) (by kernel_rfl) (by kernel_rfl) ?_ hA
    show k_SkipHolds [v0, v1, v2] [] = _
    have h2 : la.length < 17592186044000 ∧ ss.length < 3999990 ∧ txOk ss ∧ b8 a = true ∧ a.length < 140737488355000 := ⟨by omega, by omega, o1, b2, by omega⟩
    simp only [k_SkipHolds, d0, d1, d2, pre_pos h2]

end Go.Proofs.Ytdfcbophcfjakaa.B

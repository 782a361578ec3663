import Derived.Test.YtdfcbophcfjakaaSkE
set_option linter.unusedSimpArgs false
set_option linter.unusedVariables false
set_option linter.unusedSectionVars false
set_option maxRecDepth 20000
set_option maxHeartbeats 1000000
namespace Go.Proofs.Ytdfcbophcfjakaa.B
open Go Go.Ab
/-! from page to page, plain -/
theorem cmp_snoc : ∀ {k : List Int} (q : List Int), (∀ c ∈ k, 0 ≤ c) → (cmpZ k (q ++ [0]) < 0 ↔ ¬ 0 < cmpZ k q)
  | [], [], _ => by decide
  | [], y :: q, _ => by
    have h1 : cmpZ [] (y :: q ++ [0]) = -1 := rfl
    have h2 : cmpZ [] (y :: q) = -1 := rfl
    rw [h1, h2]; decide
  | x :: k, [], h => by
    have hx := h x (by simp)
    have h2 : cmpZ (x :: k) [] = 1 := rfl
    have h1 : cmpZ (x :: k) [0] = if x < 0 then -1 else if 0 < x then 1 else cmpZ k [] := rfl
    show cmpZ (x :: k) [0] < 0 ↔ _
    rw [h1, h2, if_neg (by omega)]
    split
    · decide
    · cases k with
      | nil => decide
      | cons y k => have h3 : cmpZ (y :: k) [] = 1 := rfl
                    rw [h3]; decide
  | x :: k, y :: q, h => by
    have ih := cmp_snoc (k := k) q fun c hc => h c (List.mem_cons_of_mem _ hc)
    rw [List.cons_append, cmpZ_cons, cmpZ_cons]
    split
    · decide
    · split
      · decide
      · exact ih
theorem high_after {m : Kvs} (hS : Srt (m.map (·.1))) (h8 : ∀ e ∈ m, b8 e.1 = true) {i : Nat} (hi : i < m.length) : highM m ((nth m i).1 ++ [0]) = m.drop (i + 1) := by
  have hl : (m.map (·.1)).length = m.length := List.length_map _
  have hlt : ∀ {a b : Nat}, a < b → b < m.length → cmpZ (nth m a).1 (nth m b).1 < 0 := fun {a b} h1 h2 => by
    have := hS.nth h1 (by rw [hl]; exact h2)
    rwa [nth_map (by omega), nth_map h2] at this
  have key : ∀ j, j < m.length → (lessK ((nth m i).1 ++ [0]) (nth m j) = true ↔ j ≤ i) := fun j hj => by
    have h0 : ∀ c ∈ (nth m j).1, 0 ≤ c := fun c hc => (b8_iff.1 (h8 _ (nth_mem hj)) c hc).1
    unfold lessK
    rw [decide_eq_true_iff, cmp_snoc _ h0]
    rcases Nat.lt_trichotomy j i with q | q | q
    · have := hlt q hi
      exact ⟨fun _ => by omega, fun _ => by omega⟩
    · subst q; rw [cmpZ_self]; exact ⟨fun _ => Nat.le_refl _, fun _ => by omega⟩
    · have h1 := hlt q hj
      have h2 := cmpZ_swap (nth m i).1 (nth m j).1
      exact ⟨fun h => absurd (show 0 < cmpZ (nth m j).1 (nth m i).1 by omega) h, fun h => by omega⟩
  have e : m = m.take (i + 1) ++ m.drop (i + 1) := (List.take_append_drop _ _).symm
  obtain ⟨-, q2⟩ := tw_split (p := lessK ((nth m i).1 ++ [0])) (a := m.take (i + 1)) (b := m.drop (i + 1)) (fun x hx => by
    obtain ⟨j, hj, rfl⟩ := List.getElem_of_mem hx
    rw [List.length_take] at hj
    rw [List.getElem_take, ← nth_lt (by omega)]
    exact (key j (by omega)).2 (by omega)) (fun x hx => by
    obtain ⟨j, hj, rfl⟩ := List.getElem_of_mem hx
    rw [List.length_drop] at hj
    rw [List.getElem_drop, ← nth_lt (by omega)]
    have := key (i + 1 + j) (by omega)
    exact Bool.eq_false_iff.2 fun h => by have := this.1 h; omega)
  rw [← e] at q2
  exact q2
/-- The pages' keys: behind n of those from low on. -/
theorem high_page {m : Kvs} (hS : Srt (m.map (·.1))) (h8 : ∀ e ∈ m, b8 e.1 = true) {lo : List Int} {n : Nat} (hn : 0 < n) (hl : n ≤ (highM m lo).length) : highM m ((nth (highM m lo) (n - 1)).1 ++ [0]) = (highM m lo).drop n := by
  obtain ⟨a, ha⟩ : ∃ a, highM m lo = m.drop a := ⟨_, (low_take lo m).2⟩
  rw [ha, List.length_drop] at hl
  have e : nth (m.drop a) (n - 1) = nth m (a + (n - 1)) := by
    rw [nth_lt (by rw [List.length_drop]; omega), List.getElem_drop, ← nth_lt (by omega)]
  rw [ha, e, high_after hS h8 (by omega), List.drop_drop]
  congr 1; omega
theorem ToW.dn {P : Program} {A : Ann} {T : CallF} {f : FuncId} {base : Nat} {x : Code} {s : St} {Q : Ex → St → Prop} (n : Nat) (I : Nat → St → Prop) (h0 : I n s) (hs : ∀ n s, I n s → ToW P A T f base x s (DnQ I n Q)) : ToW P A T f base (.loop x) s Q := by
  induction n using Nat.strongRecOn generalizing s with
  | _ n ih =>
    refine ToW.loop ((hs n s h0).mono fun e s1 q => ?_)
    cases e with
    | norm => obtain ⟨m, h1, h2⟩ := q; exact ih m h1 h2
    | ret => exact q
    | exit j => exact q

end Go.Proofs.Ytdfcbophcfjakaa.B
set_option maxRecDepth 20000
set_option maxHeartbeats 1000000
namespace Go.Proofs.Ytdfcbophcfjakaa.B
open Go Go.Ab
/-! SkipPages -/
theorem told_cell {α : Type} [Inhabited α] {O : List AO} {v : V} {d : V → Option α} {ks : List α} (h : ofList d (toldV O v) = some ks) : cellsOf v = [v] ∧ oneCell v = true ∧ isDef v = true := by
  obtain ⟨cs, hv, hn, -⟩ := ofList_inv h
  rcases toldV_cases O v with e | ⟨id, ver, off, n, cs', rfl, h1, h2, h3, e⟩
  · rw [e] at hv
    rcases hv with q | ⟨q, -⟩ <;> rw [q] <;> exact ⟨rfl, rfl, rfl⟩
  · exact ⟨rfl, rfl, rfl⟩
theorem ints_cell {k : IntKind} {objs : List AO} {v : V} {l : List Int} (h : ofIntsR k objs v = some l) : cellsOf v = [v] ∧ oneCell v = true ∧ isDef v = true := by
  rcases ofIntsR_inv h with h | ⟨id, ver, off, cs, rfl, -⟩
  · rcases ofInts_inv h with rfl | ⟨rfl, -⟩ <;> exact ⟨rfl, rfl, rfl⟩
  · exact ⟨rfl, rfl, rfl⟩
def atV (v : V) (i : Nat) : V := match v with | .ref id ver off _ _ => .ptr id ver (off + i) | .lst _ cs _ => .fptr cs i | _ => .undef
theorem told_idx {O : List AO} {v : V} {ks : List (List Int)} (h : ofList (ofInts .u8) (toldV O v) = some ks) : (∀ (k : IntKind) (i : Nat), i < ks.length → indexV Try.prog 27 v (.int k i) = some (atV v i)) ∧ ∀ O', Old O O' → ∀ i, i < ks.length → ∃ c, loadV Try.prog 30 O' (atV v i) = some c ∧ ofInts .u8 c = some (nth ks i) ∧ demote c = c := by
  obtain ⟨cs, hv, hn, hc⟩ := ofList_inv h
  rcases toldV_cases O v with e | ⟨id, ver, off, n, cs', rfl, h1, h2, h3, e⟩
  · rw [e] at hv
    rcases hv with q | ⟨q, hcs⟩
    · subst q
      refine ⟨fun k i hi => by simp [hi, atV], fun O' _ i hi => ?_⟩
      obtain ⟨c, c1, c1', c2⟩ := hc i hi
      exact ⟨c, by simp [atV, c1, of_get c1, (bs c2).1], c2, (bs c2).1⟩
    · have : ks = [] := List.eq_nil_of_length_eq_zero (by omega)
      subst this
      exact ⟨fun k i hi => absurd hi (Nat.not_lt_zero _), fun O' _ i hi => absurd hi (Nat.not_lt_zero _)⟩
  · rw [e] at hv
    have hq : n = ks.length ∧ (cs'.drop off).take n = cs := by
      rcases hv with q | ⟨q, -⟩
      · simp only [V.lst.injEq] at q; exact ⟨q.2.2, q.2.1⟩
      · cases q
    obtain ⟨hq1, hq2⟩ := hq
    refine ⟨fun k i hi => by rw [hq1]; simp [hi, atV], fun O' ho i hi => ?_⟩
    obtain ⟨c, c1, c1', c2⟩ := hc i hi
    have g : Ab.getObj O' id ver = some cs' := by rw [ho.2 _ _ (getObj_lt h1)]; exact h1
    have c3 : cs'[off + i]? = some c := by
      rw [← hq2, List.getElem?_take, List.getElem?_drop] at c1
      rwa [if_pos (by omega)] at c1
    exact ⟨c, by simp [atV, g, c3, of_get c3, (bs c2).1], c2, (bs c2).1⟩
theorem range_low (m : Kvs) (lo : List Int) : rangeM m lo [] = highM m lo := by
  unfold rangeM
  have : ∀ l : Kvs, l.takeWhile (belowH []) = l := fun l => by
    induction l with
    | nil => rfl
    | cons e l ih => rw [List.takeWhile_cons_of_pos (by simp [belowH]), ih]
  exact this _
theorem set_same {O : List AO} {i : Nat} {a : AO} (h : O[i]? = some a) : O.set i a = O := by
  refine List.ext_getElem? fun j => ?_
  by_cases q : i = j
  · subst q
    have hl : i < O.length := by
      rcases Nat.lt_or_ge i O.length with z | z
      · exact z
      · rw [List.getElem?_eq_none z] at h; cases h
    rw [List.getElem?_set_self hl]; exact h.symm
  · rw [List.getElem?_set_ne q]
noncomputable def k_SkipPages : Ab.Spec := fun args objs => match args, objs with
  | [v0, v1, .int .i64 page, v3], [] => match ofInts .i64 v0, ofList (ofInts .u8) v1, ofInts .u8 v3 with
    | some la, some ss, some lo => pre (la.length < 17592186044000 ∧ ss.length < 3999990 ∧ txOk ss ∧ b8 lo = true ∧ lo.length < 140737488355000) (some (.bool true, none))
    | _, _, _ => none
  | _, _ => none
noncomputable def T_SkipPages : CallF := withF T_SkipHolds 6 k_SkipPages
theorem T_SkipPages_ok : CallOk Try.prog T_SkipPages := con_ofW (A := annOf [] [] [] false [7, 17, 18, 13, 22]) fit T_SkipHolds_ok (fn := Try.f6) (by kernel_rfl) (by kernel_rfl) (by
  intro args objs r h0
  have c_aliveA : ∀ a o, T_SkipHolds 8 a o = k_aliveA a o := fun _ _ => rfl
  have c_New : ∀ a o, T_SkipHolds 7 a o = k_New a o := fun _ _ => rfl
  have c_Put : ∀ a o, T_SkipHolds 17 a o = k_Put a o := fun _ _ => rfl
  have c_SeekT : ∀ a o, T_SkipHolds 18 a o = k_SeekT a o := fun _ _ => rfl
  have c_Range : ∀ a o, T_SkipHolds 13 a o = k_Range a o := fun _ _ => rfl
  have c_find : ∀ a o, T_SkipHolds 36 a o = k_find a o := fun _ _ => rfl
  have c_Each : ∀ a o, T_SkipHolds 22 a o = k_Each a o := fun _ _ => rfl
  have c_SameR : ∀ a o, T_SkipHolds 19 a o = k_SameR a o := fun _ _ => rfl
  have c_Cat : ∀ a o, T_SkipHolds 23 a o = k_Cat a o := fun _ _ => rfl
  have c_Copy : ∀ a o, T_SkipHolds 21 a o = k_Copy a o := fun _ _ => rfl
  unfold k_SkipPages at h0
  split at h0
  case h_2 => cases h0
  rename_i v0 v1 page v3
  split at h0
  case h_2 => cases h0
  rename_i la ss lo h0a h1a h3a
  obtain ⟨⟨hla, hss, hok, lo8, lol⟩, hR⟩ := pre_inv h0
  cases hR
  obtain ⟨d0, -⟩ := is8 (objs := []) (ofIntsR_of h0a)
  obtain ⟨d1, nu, cs, iu, cu⟩ := tx h1a
  obtain ⟨d3, -⟩ := bs h3a
  obtain ⟨B0, hB0⟩ : ∃ B : List AO, B = [.cells [.int .i64 page] 0, .cells [.bool false] 0] := ⟨_, rfl⟩
  have lB0 : B0.length = 2 := by rw [hB0]; rfl
  obtain ⟨r1, n1, p1⟩ := s_New (objs := B0) h0a hla
  obtain ⟨O1, w1, rfl, old1, M1, l1⟩ := p1 _ _ rfl h0a
  rw [lB0] at n1 M1
  have n1 : k_New [v0] B0 = some (.ptr 3 0 0, some (O1, w1)) := n1
  obtain ⟨hs, hhs⟩ : ∃ h, h = la.map clipH := ⟨_, rfl⟩
  rw [← hhs] at M1
  obtain ⟨Hd, hHd⟩ : ∃ Hd : List AO → Prop, Hd = fun O => 1 < O.length ∧ Ab.getObj O 0 0 = some [.int .i64 page] ∧ Ab.getObj O 1 0 = some [.bool false] := ⟨_, rfl⟩
  have H1 : Hd O1 := by
    rw [hHd]
    refine ⟨by have := old1.1; omega, (old1.2 0 0 (by omega)).trans (by rw [hB0]; rfl), (old1.2 1 0 (by omega)).trans (by rw [hB0]; rfl)⟩
  have hdF : ∀ {O O' : List AO}, Hd O → FrB 2 O O' → Hd O' := fun {O O'} h F => by
    rw [hHd] at h ⊢
    obtain ⟨h1, h2, h3⟩ := h
    have e0 := F.same 0 (by omega) (by decide) (by decide)
    have e1 := F.same 1 (by omega) (by decide) (by decide)
    refine ⟨by have := F.le; omega, ?_, ?_⟩
    · unfold Ab.getObj at h2 ⊢; rw [e0]; exact h2
    · unfold Ab.getObj at h3 ⊢; rw [e1]; exact h3
  have hdO : ∀ {O O' : List AO}, Hd O → Old O O' → Hd O' := fun {O O'} h F => by
    rw [hHd] at h ⊢
    obtain ⟨h1, h2, h3⟩ := h
    exact ⟨by have := F.1; omega, by rw [F.2 0 0 (by omega)]; exact h2, by rw [F.2 1 0 (by omega)]; exact h3⟩
  refine .go _ rfl rfl ?_
  refine ToW.front (M := fun s => s.env 0 = v0 ∧ s.env 1 = v1 ∧ s.env 3 = v3 ∧ s.env 6 = .ptr 0 0 0 ∧ s.env 8 = .ptr 1 0 0 ∧ s.toks = [] ∧ s.objs = B0) ?_ ?_
  · simp
    exact ⟨rfl, by simp, by simp, by simp, by simp, by simp, rfl, hB0.symm⟩
  rintro s ⟨e0, e1, e3, e6, e8, ht, ho⟩
  refine ToW.front (M := fun s => s.env 1 = v1 ∧ s.env 3 = v3 ∧ s.env 6 = .ptr 0 0 0 ∧ s.env 8 = .ptr 1 0 0 ∧ s.env 9 = .ptr 3 0 0 ∧ s.toks = [] ∧ s.objs = O1) ?_ ?_
  · simp -implicitDefEqProofs (disch := omega) [e0, e1, e3, e6, e8, ht, ho, d0, c_New, n1]
    exact ⟨rfl, by simp [e1], by simp [e3], by simp [e6], by simp [e8], by simp, rfl, rfl⟩
  clear e0 e1 e3 e6 e8 ht ho
  clear s
  rintro s ⟨e1, e3, e6, e8, e9, ht, ho⟩
  refine ToW.front (M := fun s => s.env 1 = v1 ∧ s.env 3 = v3 ∧ s.env 6 = .ptr 0 0 0 ∧ s.env 8 = .ptr 1 0 0 ∧ s.env 9 = .ptr 3 0 0 ∧ s.toks = [] ∧ s.objs = O1) ?_ ?_
  · simp -implicitDefEqProofs (disch := omega) [e1, e3, e6, e8, e9, ht, ho, nilEq, nilFit, c_aliveA, aliveA]
    exact ⟨rfl, by simp [e1], by simp [e3], by simp [e6], by simp [e8], by simp [e9], rfl, rfl⟩
  clear e1 e3 e6 e8 e9 ht ho
  clear s
  rintro s ⟨e1, e3, e6, e8, e9, ht, ho⟩
  -- all put in
  refine ToW.front (M := fun s => s.env 1 = v1 ∧ s.env 3 = v3 ∧ s.env 6 = .ptr 0 0 0 ∧ s.env 8 = .ptr 1 0 0 ∧ s.env 9 = .ptr 3 0 0 ∧ s.toks = [] ∧ Hd s.objs ∧ ∃ tk hg, SkM s.objs 2 (mPut ss 0 ss.length) hs tk hg) ?_ ?_
  · simp -implicitDefEqProofs (disch := omega) [e1, e3, e6, e8, e9, ht, ho, d1, nu]
    obtain ⟨I, hI⟩ : ∃ I : Nat → St → Prop, I = (fun (i : Nat) (z : St) => z.env 1 = v1 ∧ z.env 3 = v3 ∧ z.env 6 = .ptr 0 0 0 ∧ z.env 8 = .ptr 1 0 0 ∧ z.env 9 = .ptr 3 0 0 ∧ z.env 33 = v1 ∧ z.env 34 = .int .i64 ss.length ∧ z.env 35 = .int .i64 i ∧ z.toks = [] ∧ Hd z.objs ∧ ∃ tk hg, tk ≤ i ∧ SkM z.objs 2 (mPut ss 0 i) hs tk hg) := ⟨_, rfl⟩
    refine .up ss.length I (by rw [hI]; exact ⟨by simp [e1], by simp [e3], by simp [e6], by simp [e8], by simp [e9], by simp, by simp, by simp, rfl, H1, 0, 0, by omega, M1⟩) ?_
    clear e1 e3 e6 e8 e9 ht ho
    clear s
    intro i s hi hz
    rw [hI] at hz
    obtain ⟨e1, e3, e6, e8, e9, e33, e34, e35, ht, H, tk, hg, htk, N1⟩ := hz
    rcases Nat.lt_or_ge i ss.length with h | h
    · obtain ⟨c, c1, c1', c2⟩ := cu i h
      obtain ⟨cd, -⟩ := bs c2
      have x1 := iu .i64 i (by omega) (by omega)
      rw [Int.toNat_natCast] at x1
      obtain ⟨k8, kl⟩ := hok _ (nth_mem h)
      have hmi := mPut_len ss 0 (i := i) (by omega)
      obtain ⟨O', w', tk', hg', kp, N1', ht', F⟩ := put_any (v := (i : Int)) N1 (ofIntsR_of c2) k8 (by omega) (by omega) (by omega)
      have N1' : SkM O' 2 (mPut ss 0 (i + 1)) hs tk' hg' := by rw [mPut, Int.add_zero]; exact N1'
      obtain ⟨bb, hbb⟩ : ∃ bb, bb = !isM (mPut ss 0 i) (nth ss i) := ⟨_, rfl⟩
      have kp : k_Put [.ptr 3 0 0, c, .int .i64 (i : Int)] s.objs = some (.bool bb, some (O', w')) := by rw [hbb]; exact kp
      have H' := hdF H F
      simp -implicitDefEqProofs (disch := omega) [e1, e3, e6, e8, e9, e33, e34, e35, ht, h, x1, c1, c1', cd, c_Put, kp, wrap_small]
      rw [hI]
      exact ⟨by simp [e1], by simp [e3], by simp [e6], by simp [e8], by simp [e9], by simp [e33], by simp [e34], by simp, rfl, H', tk', hg', by omega, N1'⟩
    · obtain rfl : i = ss.length := by omega
      simp -implicitDefEqProofs (disch := omega) [e1, e3, e6, e8, e9, e33, e34, e35, ht]
      exact ⟨rfl, by simp [e1], by simp [e3], by simp [e6], by simp [e8], by simp [e9], rfl, H, tk, hg, N1⟩
  clear e1 e3 e6 e8 e9 ht ho
  clear s
  rintro s ⟨e1, e3, e6, e8, e9, ht, H, tk, hg, N1⟩
  obtain ⟨m, hm⟩ : ∃ m, m = mPut ss 0 ss.length := ⟨_, rfl⟩
  have mk := mPut_keys ss 0 ss.length
  have hml := mPut_len ss 0 (Nat.le_refl ss.length)
  obtain ⟨i1, i2, i3⟩ := idx_facts ss ss.length (Nat.le_refl _)
  rw [← hm] at N1 mk hml
  rw [← mk] at i1 i3
  have m8 : ∀ e ∈ m, b8 e.1 = true ∧ e.1.length ≤ 140737488351232 := fun e he => hok _ (i3 _ (List.mem_map_of_mem he))
  obtain ⟨O, hO⟩ : ∃ O, O = s.objs := ⟨_, rfl⟩
  have ho := hO.symm
  rw [← hO] at N1 H
  have hset : ∀ {O : List AO} (b : Bool), 1 < O.length → Ab.getObj (O.set 1 (.cells [.bool b] 0)) 1 0 = some [.bool b] := fun {O} b h => by simp [Ab.getObj, h]
  have gO := H
  rw [hHd] at gO
  obtain ⟨g0, g1, g2⟩ := gO
  -- what needs no pages
  by_cases hq : page < 1 ∨ 3000 < ss.length
  · have hf := hset (O := O) true g0
    by_cases hq1 : page < 1
    · refine .of ?_
      simp -implicitDefEqProofs (disch := omega) [e1, e3, e6, e8, e9, ht, ho, d1, nu, g0, g1, g2, hq1, hf, setCells]
    · have hq2 : 3000 < ss.length := by omega
      have hq3 : (3000 : Int) < ss.length := by omega
      refine .of ?_
      simp -implicitDefEqProofs (disch := omega) [e1, e3, e6, e8, e9, ht, ho, d1, nu, g0, g1, g2, hq1, hq2, hq3, hf, setCells]
  have hp1 : ¬ page < 1 := fun h => hq (.inl h)
  have hp2 : ¬ 3000 < ss.length := fun h => hq (.inr h)
  have hp3 : ¬ (3000 : Int) < ss.length := by omega
  have t3 : ∀ O, ofIntsR .u8 O v3 = some lo := fun O => ofIntsR_of h3a
  have tz : ∀ O, ofIntsR .u8 O .nils = some [] := fun O => ofIntsR_of rfl
  obtain ⟨r3, n3, p3⟩ := s_Range N1 (t3 O) lo8 lol (tz O) rfl (by decide)
  obtain ⟨O4, w4, x, y, rfl, old4, nx, dx, dy⟩ := p3 _ _ _ _ _ _ _ _ _ rfl N1 (t3 O) (tz O)
  rw [range_low] at dx dy
  have n3 : k_Range [.ptr 3 0 0, v3, .nils] O = some (.tup [x, y], some (O4, w4)) := n3
  have N1 := N1.old old4
  have H4 := hdO H old4
  obtain ⟨Wl, hW⟩ : ∃ W, W = highM m lo := ⟨_, rfl⟩
  rw [← hW] at dx dy
  have hWm : Wl.length < 3999990 := by
    have h2 : Wl.length ≤ m.length := by rw [hW]; unfold highM; exact (List.dropWhile_sublist _).length_le
    omega
  obtain ⟨xl, xd, xt⟩ := told_len dx
  obtain ⟨xc1, xc2, xc3⟩ := told_cell dx
  obtain ⟨yc1, yc2, yc3⟩ := ints_cell dy
  obtain ⟨yd, yl, -⟩ := is8 dy
  have yt := ints_ntup dy
  rw [List.length_map] at xl yl
  obtain ⟨xi, xa⟩ := told_idx dx
  rw [List.length_map] at xi xa
  obtain ⟨r, hr⟩ : ∃ r, r = O4.length := ⟨_, rfl⟩
  obtain ⟨B, hB⟩ : ∃ B, B = O4 ++ [.cells [x] 0, .cells [y] 0] := ⟨_, rfl⟩
  have lB : B.length = r + 2 := by rw [hB, hr]; simp
  have oldB : Old O4 B := by rw [hB]; exact Old.ext _ _
  have HB := hdO H4 oldB
  have NB := N1.old oldB
  have bx : Ab.getObj B r 0 = some [x] := by rw [hB, hr]; simp
  have by' : Ab.getObj B (r + 1) 0 = some [y] := by rw [hB, hr]; simp
  refine ToW.front (M := fun s => s.env 3 = v3 ∧ s.env 6 = .ptr 0 0 0 ∧ s.env 8 = .ptr 1 0 0 ∧ s.env 9 = .ptr 3 0 0 ∧ s.toks = [] ∧ s.objs = O) ?_ ?_
  · simp -implicitDefEqProofs (disch := omega) [e1, e3, e6, e8, e9, ht, ho, d1, nu, g0, g1, g2, hp1, hp2, hp3]
    exact ⟨rfl, by simp [e3], by simp [e6], by simp [e8], by simp [e9], rfl, rfl⟩
  clear e1 e3 e6 e8 e9 ht ho hO
  clear s
  rintro s ⟨e3, e6, e8, e9, ht, ho⟩
  have bs1 : (O4 ++ [AO.cells [.nils] 0, .cells [.nils] 0]).set r (.cells [x] 0) = O4 ++ [.cells [x] 0, .cells [.nils] 0] := by rw [hr]; simp
  have bs2 : (O4 ++ [AO.cells [x] 0, .cells [.nils] 0]).set (r + 1) (.cells [y] 0) = B := by rw [hB, hr]; simp
  have bg1 : Ab.getObj (O4 ++ [AO.cells [.nils] 0, .cells [.nils] 0]) r 0 = some [.nils] := by rw [hr]; simp
  have bg2 : Ab.getObj (O4 ++ [AO.cells [x] 0, .cells [.nils] 0]) (r + 1) 0 = some [.nils] := by rw [hr]; simp
  refine ToW.front (M := fun s => s.env 3 = v3 ∧ s.env 6 = .ptr 0 0 0 ∧ s.env 8 = .ptr 1 0 0 ∧ s.env 9 = .ptr 3 0 0 ∧ s.env 12 = .ptr r 0 0 ∧ s.env 13 = .ptr (r + 1) 0 0 ∧ s.toks = [] ∧ s.objs = B) ?_ ?_
  · simp -implicitDefEqProofs (disch := omega) [e3, e6, e8, e9, ht, ho, d3, c_Range, n3, xd, xt, yd, yt, xc1, xc2, xc3, yc1, yc2, yc3, setCells, ← hr, bs1, bs2, bg1, bg2]
    exact ⟨rfl, by simp [e3], by simp [e6], by simp [e8], by simp [e9], by simp, by simp, rfl, rfl⟩
  clear e3 e6 e8 e9 ht ho
  clear s
  rintro s ⟨e3, e6, e8, e9, e12, e13, ht, ho⟩
  have kcp : k_Copy [v3] B = some (.lst (.fresh 1 true) (ints .u8 lo) lo.length, none) := by simp (disch := omega) [k_Copy, h3a]
  refine ToW.front (M := fun s => s.env 3 = v3 ∧ s.env 6 = .ptr 0 0 0 ∧ s.env 8 = .ptr 1 0 0 ∧ s.env 9 = .ptr 3 0 0 ∧ s.env 12 = .ptr r 0 0 ∧ s.env 13 = .ptr (r + 1) 0 0 ∧ s.env 14 = .lst .frozen (ints .u8 lo) lo.length ∧ s.toks = [] ∧ s.objs = B) ?_ ?_
  · simp -implicitDefEqProofs (disch := omega) [e3, e6, e8, e9, e12, e13, ht, ho, d3, c_Copy, kcp]
    exact ⟨rfl, by simp [e3], by simp [e6], by simp [e8], by simp [e9], by simp [e12], by simp [e13], by simp, rfl, rfl⟩
  clear e3 e6 e8 e9 e12 e13 ht ho
  clear s
  rintro s ⟨e3, e6, e8, e9, e12, e13, e14, ht, ho⟩
  -- where the pages stand
  obtain ⟨Stg, hStg⟩ : ∃ Stg : Nat → List AO → Prop, Stg = fun (a : Nat) O => Old B O ∧ r + 2 < O.length ∧ Ab.getObj O (r + 2) 0 = some [.int .i64 (a : Int)] := ⟨_, rfl⟩
  obtain ⟨Atk, hAtk⟩ : ∃ Atk : Nat → V → Prop, Atk = fun (n : Nat) v => ∃ at', ofInts .u8 v = some at' ∧ b8 at' = true ∧ at'.length < 140737488355000 ∧ highM m at' = Wl.drop n := ⟨_, rfl⟩
  have S0 : Stg 0 (B ++ [.cells [.int .i64 0] 0]) := by
    rw [hStg]
    refine ⟨Old.ext _ _, by simp [lB], ?_⟩
    rw [← lB]; simp
  have A0 : Atk 0 (.lst .frozen (ints .u8 lo) lo.length) := by
    rw [hAtk]
    exact ⟨lo, ofInts_lst rfl, lo8, lol, by rw [List.drop_zero, hW]⟩
  have bz : (B ++ [AO.cells [.int .i64 0] 0]).set (r + 2) (.cells [.int .i64 0] 0) = B ++ [.cells [.int .i64 0] 0] := by rw [← lB]; simp
  have bzg : Ab.getObj (B ++ [AO.cells [.int .i64 0] 0]) (r + 2) 0 = some [.int .i64 0] := by rw [← lB]; simp
  refine ToW.front (M := fun s => s.env 3 = v3 ∧ s.env 6 = .ptr 0 0 0 ∧ s.env 8 = .ptr 1 0 0 ∧ s.env 9 = .ptr 3 0 0 ∧ s.env 12 = .ptr r 0 0 ∧ s.env 13 = .ptr (r + 1) 0 0 ∧ s.env 14 = .lst .frozen (ints .u8 lo) lo.length ∧ s.env 15 = .ptr (r + 2) 0 0 ∧ s.toks = [] ∧ s.objs = B ++ [.cells [.int .i64 0] 0]) ?_ ?_
  · simp -implicitDefEqProofs (disch := omega) [e3, e6, e8, e9, e12, e13, e14, ht, ho, lB, bz, bzg, setCells]
    exact ⟨rfl, by simp [e3], by simp [e6], by simp [e8], by simp [e9], by simp [e12], by simp [e13], by simp [e14], by simp, rfl, rfl⟩
  clear e3 e6 e8 e9 e12 e13 e14 ht ho
  clear s
  rintro s ⟨e3, e6, e8, e9, e12, e13, e14, e15, ht, ho⟩
  have gB : ∀ {a : Nat} {O : List AO}, Stg a O → Old O4 O ∧ Ab.getObj O 0 0 = some [.int .i64 page] ∧ Ab.getObj O 1 0 = some [.bool false] ∧ Ab.getObj O r 0 = some [x] ∧ Ab.getObj O (r + 1) 0 = some [y] ∧ Ab.getObj O (r + 2) 0 = some [.int .i64 (a : Int)] ∧ r + 2 < O.length := fun {a O} h => by
    rw [hStg] at h
    obtain ⟨h1, h2, h3⟩ := h
    have hb := HB
    rw [hHd] at hb
    obtain ⟨b0, b1, b2⟩ := hb
    exact ⟨oldB.trans h1, by rw [h1.2 0 0 (by omega)]; exact b1, by rw [h1.2 1 0 (by omega)]; exact b2, by rw [h1.2 r 0 (by omega)]; exact bx, by rw [h1.2 (r + 1) 0 (by omega)]; exact by', h3, h2⟩
  refine ToW.seq (ToW.mono (Q := fun e s => e = .norm ∧ s.env 3 = v3 ∧ s.env 6 = .ptr 0 0 0 ∧ s.env 8 = .ptr 1 0 0 ∧ s.env 9 = .ptr 3 0 0 ∧ s.env 12 = .ptr r 0 0 ∧ s.env 13 = .ptr (r + 1) 0 0 ∧ s.toks = [] ∧ Stg Wl.length s.objs ∧ Atk Wl.length (s.env 14)) ?_ ?_)
  · refine ToW.block ?_
    obtain ⟨I, hI⟩ : ∃ I : Nat → St → Prop, I = (fun (d : Nat) (z : St) => d ≤ Wl.length ∧ z.env 3 = v3 ∧ z.env 6 = .ptr 0 0 0 ∧ z.env 8 = .ptr 1 0 0 ∧ z.env 9 = .ptr 3 0 0 ∧ z.env 12 = .ptr r 0 0 ∧ z.env 13 = .ptr (r + 1) 0 0 ∧ z.env 15 = .ptr (r + 2) 0 0 ∧ z.toks = [] ∧ Stg (Wl.length - d) z.objs ∧ Atk (Wl.length - d) (z.env 14)) := ⟨_, rfl⟩
    refine ToW.dn Wl.length I (by rw [hI]; exact ⟨Nat.le_refl _, e3, e6, e8, e9, e12, e13, e15, ht, by rw [Nat.sub_self, ho]; exact S0, by rw [Nat.sub_self, e14]; exact A0⟩) ?_
    clear e3 e6 e8 e9 e12 e13 e14 e15 ht ho
    clear s
    intro d s hz
    rw [hI] at hz
    obtain ⟨hd, e3, e6, e8, e9, e12, e13, e15, ht, hS, hA⟩ := hz
    obtain ⟨n, hn⟩ : ∃ n, n = Wl.length - d := ⟨_, rfl⟩
    rw [← hn] at hS hA
    obtain ⟨o4, z0, z1, zx, zy, zn, zl⟩ := gB hS
    rcases Nat.lt_or_ge n Wl.length with h | h
    case inr =>
      obtain rfl : d = 0 := by omega
      have hn0 : n = Wl.length := by omega
      have hnn : ¬ n < Wl.length := by omega
      refine .of ?_
      simp -implicitDefEqProofs (disch := omega) [e3, e6, e8, e9, e12, e13, e15, ht, zn, zx, xl, xd, hnn]
      exact ⟨rfl, by simp [e3], by simp [e6], by simp [e8], by simp [e9], by simp [e12], by simp [e13], rfl, by rw [← hn0]; exact hS, by rw [← hn0]; simpa using hA⟩
    have hn1 : (n : Int) < Wl.length := by omega
    obtain ⟨va, hva⟩ : ∃ va, va = s.env 14 := ⟨_, rfl⟩
    have e14 := hva.symm
    rw [← hva, hAtk] at hA
    obtain ⟨k, hk, k8, kl, hk2⟩ := hA
    obtain ⟨O0, hO0⟩ : ∃ O0, O0 = s.objs := ⟨_, rfl⟩
    have ho := hO0.symm
    rw [← hO0] at hS o4 z0 z1 zx zy zn zl
    obtain ⟨kd, kc, ki⟩ := bytesOk (objs := O0) (ofIntsR_of hk)
    refine ToW.front (M := fun s => s.env 3 = v3 ∧ s.env 6 = .ptr 0 0 0 ∧ s.env 8 = .ptr 1 0 0 ∧ s.env 9 = .ptr 3 0 0 ∧ s.env 12 = .ptr r 0 0 ∧ s.env 13 = .ptr (r + 1) 0 0 ∧ s.env 14 = va ∧ s.env 15 = .ptr (r + 2) 0 0 ∧ s.toks = [] ∧ s.objs = O0) ?_ ?_
    · simp -implicitDefEqProofs (disch := omega) [e3, e6, e8, e9, e12, e13, e14, e15, ht, ho, zn, zx, xl, xd, h, hn1]
      exact ⟨rfl, by simp [e3], by simp [e6], by simp [e8], by simp [e9], by simp [e12], by simp [e13], by simp [e14], by simp [e15], rfl, rfl⟩
    clear e3 e6 e8 e9 e12 e13 e14 e15 ht ho hO0 hva
    clear s
    rintro s ⟨e3, e6, e8, e9, e12, e13, e14, e15, ht, ho⟩
    refine ToW.block ?_
    obtain ⟨q, hq⟩ : ∃ q, q = O0.length := ⟨_, rfl⟩
    rw [← hq] at zl
    have eg : Ab.getObj (O0 ++ [AO.cells [.int .i64 0] 0]) q 0 = some [.int .i64 0] := by rw [hq, getObj_last]
    have es : (O0 ++ [AO.cells [.int .i64 0] 0]).set q (.cells [.int .i64 0] 0) = O0 ++ [AO.cells [.int .i64 0] 0] := by rw [hq, set_last]
    refine ToW.front (M := fun s => s.env 3 = v3 ∧ s.env 6 = .ptr 0 0 0 ∧ s.env 8 = .ptr 1 0 0 ∧ s.env 9 = .ptr 3 0 0 ∧ s.env 12 = .ptr r 0 0 ∧ s.env 13 = .ptr (r + 1) 0 0 ∧ s.env 14 = va ∧ s.env 15 = .ptr (r + 2) 0 0 ∧ s.env 16 = .ptr q 0 0 ∧ s.toks = [] ∧ s.objs = O0 ++ [.cells [.int .i64 0] 0]) ?_ ?_
    · simp -implicitDefEqProofs (disch := omega) [e3, e6, e8, e9, e12, e13, e14, e15, ht, ho, ← hq, eg, es, setCells]
      exact ⟨rfl, by simp [e3], by simp [e6], by simp [e8], by simp [e9], by simp [e12], by simp [e13], by simp [e14], by simp [e15], by simp, rfl, rfl⟩
    clear e3 e6 e8 e9 e12 e13 e14 e15 ht ho
    clear s
    rintro s ⟨e3, e6, e8, e9, e12, e13, e14, e15, e16, ht, ho⟩
    obtain ⟨E1, hE1⟩ : ∃ E1, E1 = O0 ++ [AO.cells [.int .i64 0] 0] := ⟨_, rfl⟩
    rw [← hE1] at ho
    have lE1 : E1.length = q + 1 := by rw [hE1, hq]; simp
    obtain ⟨E, hE⟩ : ∃ E, E = E1 ++ [AO.cells [.ptr 3 0 0] 0, .cells [va] 0] := ⟨_, rfl⟩
    have lE : E.length = q + 3 := by rw [hE, List.length_append, lE1]; rfl
    have oldE : Old O4 E := by rw [hE, hE1]; exact (o4.app _).app _
    have hkE : ofIntsR .u8 E va = some k := ofIntsR_of hk
    have NE := N1.old oldE
    obtain ⟨c, f, ord, ht', nv, hv, X, P, S, F⟩ := found NE hkE k8 kl
    have hfi := F.find
    obtain ⟨tw, htw⟩ : ∃ tw, tw = twL fun h => (atH ht' h P : Int) := ⟨_, rfl⟩
    have twl : tw.length = 12 := by rw [htw, twL_len]
    rw [← htw] at hfi
    have hSw : kvs f S = Wl.drop n := by rw [← hk2, F.mm]; exact (cut_kvs F.C).2.symm
    have hSl : S.length = Wl.length - n := by
      have := congrArg List.length hSw
      rw [List.length_drop] at this
      unfold kvs at this
      rw [List.length_map] at this
      exact this
    refine ToW.seq (ToW.front (M := fun s => s.env 3 = v3 ∧ s.env 6 = .ptr 0 0 0 ∧ s.env 8 = .ptr 1 0 0 ∧ s.env 9 = .ptr 3 0 0 ∧ s.env 12 = .ptr r 0 0 ∧ s.env 13 = .ptr (r + 1) 0 0 ∧ s.env 15 = .ptr (r + 2) 0 0 ∧ s.env 16 = .ptr q 0 0 ∧ s.env 66 = .fn (.func 39) [] [.ptr (q + 1) 0 0, .ptr (q + 2) 0 0] ∧ s.toks = [] ∧ s.objs = E) ?_ ?_)
    · have kp : k_Each [.ptr 3 0 0, va] E1 = some (.fn (.func 39) [] [.ptr (q + 1) 0 0, .ptr (q + 2) 0 0], some (E, q + 1)) := by
        simp [-isDef_eq, -cellsOf_eq, k_Each, con2, kd, kc, ki, hE, lE1, pre_pos]
      simp -implicitDefEqProofs (disch := omega) [e3, e6, e8, e9, e12, e13, e14, e15, e16, ht, ho, kd, c_Each, kp]
      exact ⟨rfl, by simp [e3], by simp [e6], by simp [e8], by simp [e9], by simp [e12], by simp [e13], by simp [e15], by simp [e16], by simp, rfl, rfl⟩
    clear e3 e6 e8 e9 e12 e13 e14 e15 e16 ht ho
    clear s
    rintro s ⟨e3, e6, e8, e9, e12, e13, e15, e16, e66, ht, ho⟩
    -- one page
    obtain ⟨R, hR⟩ : ∃ R : Int → Int → List AO, R = fun a c => (O0.set (r + 2) (.cells [.int .i64 a] 0)) ++ (.cells [.int .i64 c] 0 :: .cells [.ptr 3 0 0] 0 :: .cells [va] 0 :: [.cells (ints .i64 tw) 0]) := ⟨_, rfl⟩
    have Rl : ∀ a c, (R a c).length = q + 4 := fun a c => by rw [hR, hq]; simp
    have Rn : ∀ a c, Ab.getObj (R a c) (r + 2) 0 = some [.int .i64 a] := fun a c => by
      rw [hR]; dsimp only
      rw [getObj_app (by rw [List.length_set, ← hq]; exact zl)]
      have : r + 2 < O0.length := by omega
      simp [Ab.getObj, this]
    have Rt : ∀ a c, Ab.getObj (R a c) q 0 = some [.int .i64 c] := fun a c => by
      have hl : (O0.set (r + 2) (.cells [.int .i64 a] 0)).length = q := by rw [List.length_set, hq]
      rw [hR]; dsimp only
      obtain ⟨Z, hZ⟩ : ∃ Z, Z = O0.set (r + 2) (.cells [.int .i64 a] 0) := ⟨_, rfl⟩
      rw [← hZ] at hl ⊢
      rw [← hl]; simp
    have Rp : ∀ a c, Ab.getObj (R a c) (q + 1) 0 = some [.ptr 3 0 0] := fun a c => by
      have hl : (O0.set (r + 2) (.cells [.int .i64 a] 0)).length = q := by rw [List.length_set, hq]
      rw [hR]; dsimp only
      obtain ⟨Z, hZ⟩ : ∃ Z, Z = O0.set (r + 2) (.cells [.int .i64 a] 0) := ⟨_, rfl⟩
      rw [← hZ] at hl ⊢
      rw [← hl]; simp
    have sn : ∀ a c a', (R a c).set (r + 2) (.cells [.int .i64 a'] 0) = R a' c := fun a c a' => by
      rw [hR]; dsimp only
      rw [List.set_append_left _ _ (by rw [List.length_set, ← hq]; exact zl), List.set_set]
    have st : ∀ a c c', (R a c).set q (.cells [.int .i64 c'] 0) = R a c' := fun a c c' => by
      have hl : (O0.set (r + 2) (.cells [.int .i64 a] 0)).length = q := by rw [List.length_set, hq]
      rw [hR]; dsimp only
      rw [List.set_append_right _ _ (by rw [hl]; exact Nat.le_refl _), hl, Nat.sub_self]; rfl
    have hS' := hS
    rw [hStg] at hS'
    have RB : ∀ a c, Old B (R a c) := fun a c => by rw [hR]; exact (hS'.1.set (by omega)).app _
    have RO : ∀ a c, Old O4 (R a c) := fun a c => oldB.trans (RB a c)
    have R0 : ∀ a c, Ab.getObj (R a c) 0 0 = some [.int .i64 page] := fun a c => by
      have hb := HB
      rw [hHd] at hb
      rw [(RB a c).2 0 0 (by omega)]; exact hb.2.1
    have Rx : ∀ a c, Ab.getObj (R a c) r 0 = some [x] := fun a c => by rw [(RB a c).2 r 0 (by omega)]; exact bx
    have Ry : ∀ a c, Ab.getObj (R a c) (r + 1) 0 = some [y] := fun a c => by rw [(RB a c).2 (r + 1) 0 (by omega)]; exact by'
    have hE6 : E ++ [.cells (ints .i64 tw) 0] = R n 0 := by
      rw [hR, hE, hE1]; dsimp only
      rw [set_same (getObj_get zn)]; simp
    have wE : ∀ a c (id v : Nat), (id = 2 ∨ id = 2 + 1) → Ab.getObj (R a c) id v = Ab.getObj E id v := fun a c id v hid => by
      have := N1.lt
      rw [(RO a c).2 _ _ (by omega), oldE.2 _ _ (by omega)]
    have gh := getObj_of F.I.head
    have gn := getObj_of F.I.nodes
    have hE0 : Ab.getObj E (q + 1) 0 = some [.ptr (2 + 1) 0 0] := by rw [hE, ← lE1]; simp
    have hE1' : Ab.getObj E (q + 2) 0 = some [va] := by
      have := getObj_add (objs := E1) (l := [.cells [.ptr 3 0 0] 0, .cells [va] 0]) (k := 1) (v := 0)
      rw [lE1] at this
      rw [hE]; exact this
    obtain ⟨K, hK⟩ : ∃ K : Nat, K = if page < (S.length : Int) then page.toNat else S.length := ⟨_, rfl⟩
    have k1 : K ≤ S.length := by rw [hK]; split <;> omega
    have k0 : 0 < K := by rw [hK]; split <;> omega
    have kp : (K : Int) ≤ page := by rw [hK]; split <;> omega
    have k2 : K < S.length → (K : Int) = page := fun hlt => by rw [hK] at hlt ⊢; split at hlt <;> (split <;> omega)
    obtain ⟨lo', hlo'⟩ : ∃ lo' : Nat → Nat, lo' = fun i => if i = 0 then q + 3 else r + 2 := ⟨_, rfl⟩
    have lo0 : lo' 0 = q + 3 := by rw [hlo']; rfl
    have loS : ∀ i, lo' (i + 1) = r + 2 := fun i => by rw [hlo']; rfl
    have lo_le : ∀ i, lo' i ≤ q + 3 := fun i => by rw [hlo']; dsimp only; split <;> omega
    obtain ⟨jx, hjx⟩ : ∃ jx : Ex, jx = if K < S.length then .exit 4 else .norm := ⟨_, rfl⟩
    obtain ⟨Oi, hOi⟩ : ∃ Oi : Nat → List AO, Oi = fun i => R ((n + i : Nat) : Int) (i : Int) := ⟨_, rfl⟩
    have key : ∀ Y : Rd, YLow 0 Y → (∀ i, i < K → Y (eArgs f (nth S i)) (Oi i) .norm (Oi (i + 1)) (r + 2)) → (K < S.length → Y (eArgs f (nth S K)) (Oi K) (.exit 4) (Oi K) (Oi K).length) → ∀ L, ∃ e s', (e = Ex.norm ∨ e = Ex.ret) ∧ SemL Try.prog (annOf [] [] [] false []) T_SkipHolds 39 0 L Y eclo ⟨entryEnv [.fn (.yield L.l) [] [], .ptr (q + 1) 0 0, .ptr (q + 2) 0 0], [], E, E.length⟩ (e, s', jx) ∧ s'.objs = Oi K ∧ s'.low = lo' K := by
      intro Y hY h1 h2 L
      obtain ⟨e, s', j', hsem, he, hj, ho', hl'⟩ := each_ok (T := T_SkipHolds) (L := L) (Oi := Oi) (yl := fun _ => r + 2) (lo := lo') (K := K) (jx := .exit 4) (Ox := Oi K) (yx := (Oi K).length) (LB := q + 1) (KB := q + 2) (b := 2) (c := c) (nv := nv) (hv := hv) (kv := va) (tk := tk) (hg := hg) (X := X) (f := f) (ord := ord) (P := P) (S := S) (ht := ht') (tw := tw) (k := k) T_SkipHolds_ok c_find hY F.I.lnk F.C F.I.nodeX k1 twl hE0 hE1' kd hfi (by rw [hE6, hOi]; rfl) (fun i _ => by rw [hOi]; exact ⟨Rp _ _, (wE _ _ _ _ (.inr rfl)).trans gh, (wE _ _ _ _ (.inl rfl)).trans gn⟩) h1 (by rw [lo0, lE]) (fun i _ => by rw [loS]; have := lo_le i; cases i with
        | zero => rw [lo0, if_pos (by omega)]
        | succ i => rw [loS, if_neg (by omega)]) (fun h => ⟨by simp, h2 h⟩)
      refine ⟨e, s', he, by rw [hj, ← hjx] at hsem; exact hsem, by rw [ho']; split <;> rfl, ?_⟩
      have := lo_le K
      have hOK : (Oi K).length = q + 4 := by rw [hOi]; exact Rl _ _
      rw [hl']
      split
      · rw [if_neg (by omega)]
      · rfl
    -- the page's keys are those of the list told at once
    have hkey : ∀ i, i < S.length → n + i < Wl.length ∧ nth Wl (n + i) = ((f (nth S i)).key, (f (nth S i)).val) := fun i hi => by
      have hlt : n + i < Wl.length := by omega
      refine ⟨hlt, ?_⟩
      have e1 : nth (kvs f S) i = ((f (nth S i)).key, (f (nth S i)).val) := nth_map hi
      rw [hSw, nth_lt (by rw [List.length_drop]; omega), List.getElem_drop, ← nth_lt hlt] at e1
      exact e1
    refine ToW.block (ToW.cut (CutOk.ofS (SemC.rangeFunc (A' := annOf [] [] [] false []) (objs' := Oi K) (low' := lo' K) (j := jx) fit T_SkipHolds_ok (fn := Try.f39) (by kernel_rfl) eclo_body (by kernel_rfl) e66 (by kernel_rfl) (by kernel_rfl) ?_) (fun x h => (by cases h))) ?_)
    · intro L
      rw [ho]
      refine key _ (roundY_low T_SkipHolds_ok) ?_ ?_ L
      · intro i hi
        have hiS : i < S.length := by omega
        obtain ⟨j, hj⟩ : ∃ j, j = nth S i := ⟨_, rfl⟩
        have hjo : j ∈ ord := by rw [F.C.app, hj]; exact List.mem_append_right _ (nth_mem hiS)
        obtain ⟨hkj, kj8, kjl⟩ := F.I.lnk.key j hjo
        obtain ⟨hlt, hnk⟩ := hkey i hiS
        rw [← hj] at hnk ⊢
        obtain ⟨g, hg'⟩ : ∃ g, g = (f j).key := ⟨_, rfl⟩
        obtain ⟨vl, hvl⟩ : ∃ vl, vl = (f j).val := ⟨_, rfl⟩
        obtain ⟨vk, hvk⟩ : ∃ vk, vk = (f j).kv := ⟨_, rfl⟩
        have hya : eArgs f j = [vk, .int .i64 vl] := by rw [hvk, hvl]; rfl
        rw [hya]
        rw [← hg', ← hvl] at hnk
        rw [← hg'] at kjl hkj
        rw [← hvk] at hkj
        obtain ⟨jd, -⟩ := bs hkj
        obtain ⟨a, ha⟩ : ∃ a, a = n + i := ⟨_, rfl⟩
        rw [← ha] at hlt hnk
        have hO1 : Oi i = R a i := by rw [hOi, ha]
        have hO2 : Oi (i + 1) = R ((a : Int) + 1) ((i : Int) + 1) := by rw [hOi]; dsimp only; congr 1 <;> omega
        rw [hO1, hO2]
        have hx1 := xi .i64 a hlt
        obtain ⟨cx, cx1, cx2, cx3⟩ := xa (R a i) (RO _ _) a hlt
        rw [nth_map hlt, hnk] at cx2
        have dyR := ints_old dy (RO a i)
        obtain ⟨-, -, yi, ya⟩ := is8 dyR
        have hy1 := yi .i64 a (by rw [List.length_map]; exact hlt)
        have hy2 := ya a (by rw [List.length_map]; exact hlt)
        rw [nth_map hlt, hnk] at hy2
        have hy2 : loadV Try.prog 3 (R a i) (ptAt y (ints .i64 (Wl.map (·.2))) a) = some (.int .i64 vl) := hy2
        have cx2 : ofInts .u8 cx = some g := cx2
        have sm : k_SameR [vk, cx] (R a i) = some (.bool true, none) := by
          have q1 : ofIntsR .u8 (R a i) vk = some g := ofIntsR_of hkj
          have q2 : ofIntsR .u8 (R a i) cx = some g := ofIntsR_of cx2
          simp (disch := omega) [k_SameR, q1, q2]
        refine roundY_of2 (M := fun s => s.env 6 = .ptr 0 0 0 ∧ s.env 12 = .ptr r 0 0 ∧ s.env 13 = .ptr (r + 1) 0 0 ∧ s.env 15 = .ptr (r + 2) 0 0 ∧ s.env 16 = .ptr q 0 0 ∧ s.env 17 = vk ∧ s.env 18 = .int .i64 vl ∧ s.toks = [] ∧ s.objs = R a i ∧ s.low = q + 4) rfl ?_ ?_
        · have hpe : parEnv (fun d => demote (s.env d)) #[67, 68].toList [vk, .int .i64 vl] = Ab.put (Ab.put (fun d => demote (s.env d)) (some 67) vk) (some 68) (.int .i64 vl) := rfl
          rw [hpe]
          simp -implicitDefEqProofs (disch := omega) [jd]
          exact ⟨rfl, by simp [e6], by simp [e12], by simp [e13], by simp [e15], by simp [e16], by simp, by simp, rfl, rfl, Rl _ _⟩
        rintro z ⟨f6, f12, f13, f15, f16, f17, f18, ft, fo, fl⟩
        have hip : ¬ (i : Int) = page := by omega
        have hA1 : r < q + 2 := by omega
        have hA2 : ¬ q < r + 2 := by omega
        have hlt2 : ¬ (Wl.length : Int) ≤ a := by omega
        have hlt3 : ¬ Wl.length ≤ a := by omega
        simp -implicitDefEqProofs (disch := omega) [f6, f12, f13, f15, f16, f17, f18, ft, fo, fl, R0, Rn, Rt, Rx, Ry, hip, hlt2, hlt3, xl, xd, yd, jd, hx1, cx1, cx3, hy1, hy2, c_SameR, sm, sn, st, Rl, setCells, wrap_small, hA1, hA2]
        exact ⟨rfl, rfl, rfl⟩
      · intro hKS
        obtain ⟨j, hj⟩ : ∃ j, j = nth S K := ⟨_, rfl⟩
        have hjo : j ∈ ord := by rw [F.C.app, hj]; exact List.mem_append_right _ (nth_mem hKS)
        obtain ⟨hkj, kj8, kjl⟩ := F.I.lnk.key j hjo
        obtain ⟨jd, -⟩ := bs hkj
        obtain ⟨vl, hvl⟩ : ∃ vl, vl = (f j).val := ⟨_, rfl⟩
        obtain ⟨vk, hvk⟩ : ∃ vk, vk = (f j).kv := ⟨_, rfl⟩
        have hya : eArgs f j = [vk, .int .i64 vl] := by rw [hvk, hvl]; rfl
        rw [← hj, hya]
        rw [← hvk] at jd
        have hO1 : Oi K = R ((n + K : Nat) : Int) K := by rw [hOi]
        obtain ⟨a, ha⟩ : ∃ a : Int, a = ((n + K : Nat) : Int) := ⟨_, rfl⟩
        rw [← ha] at hO1
        rw [hO1]
        refine roundY_of2 (M := fun s => s.env 6 = .ptr 0 0 0 ∧ s.env 16 = .ptr q 0 0 ∧ s.toks = [] ∧ s.objs = R a K ∧ s.low = (R a K).length) rfl ?_ ?_
        · have hpe : parEnv (fun d => demote (s.env d)) #[67, 68].toList [vk, .int .i64 vl] = Ab.put (Ab.put (fun d => demote (s.env d)) (some 67) vk) (some 68) (.int .i64 vl) := rfl
          rw [hpe]
          simp -implicitDefEqProofs (disch := omega) [jd]
          exact ⟨rfl, by simp [e6], by simp [e16], rfl, rfl, rfl⟩
        rintro z ⟨f6, f16, ft, fo, fl⟩
        have hip := k2 hKS
        simp -implicitDefEqProofs (disch := omega) [f6, f16, ft, fo, fl, R0, Rt, hip]
        exact ⟨rfl, rfl, rfl⟩
    · obtain ⟨a, ha⟩ : ∃ a, a + 1 = n + K := ⟨n + K - 1, by omega⟩
      have halt : a < Wl.length := by omega
      have hO1 : Oi K = R ((a : Int) + 1) K := by rw [hOi]; dsimp only; congr 1; omega
      rw [hO1]
      have SK : Stg (a + 1) (R ((a : Int) + 1) K) := by
        rw [hStg]
        exact ⟨RB _ _, by rw [Rl]; omega, Rn _ _⟩
      have hx1 := xi .i64 a halt
      obtain ⟨cx, cx1, cx2, cx3⟩ := xa (R ((a : Int) + 1) K) (RO _ _) a halt
      rw [nth_map halt] at cx2
      obtain ⟨g, hg'⟩ : ∃ g, g = (nth Wl a).1 := ⟨_, rfl⟩
      have cx2 : ofInts .u8 cx = some g := by rw [hg']; exact cx2
      have hgm : b8 g = true ∧ g.length ≤ 140737488351232 := by
        rw [hg']
        refine m8 _ ?_
        have h1 : nth Wl a ∈ Wl := nth_mem halt
        rw [hW] at h1
        unfold highM at h1
        rw [hW]
        exact (List.dropWhile_sublist _).subset h1
      have h1m : ofInts .u8 (.lst .frozen [.int .u8 0] 1) = some [0] := rfl
      have kcat : ∀ O, k_Cat [cx, .lst .frozen [.int .u8 0] 1] O = some (.lst (.fresh 1 false) (ints .u8 (g ++ [0])) (g.length + 1), none) := fun O => by
        have hl : g.length + 1 < 140737488355300 := by omega
        simp [k_Cat, con2, cx2, h1m, bnd_pos hl]
      have AK : Atk (a + 1) (.lst .frozen (ints .u8 (g ++ [0])) (g.length + 1)) := by
        rw [hAtk]
        refine ⟨g ++ [0], ofInts_lst (by simp), ?_, by simp; omega, ?_⟩
        · rw [b8_iff]
          intro c hc
          rcases List.mem_append.1 hc with h | h
          · exact b8_iff.1 hgm.1 c h
          · rw [List.mem_singleton] at h; subst h; decide
        · have := high_page (m := m) i1 (fun e he => (m8 e he).1) (lo := lo) (n := a + 1) (by omega) (by rw [← hW]; omega)
          rw [← hW, Nat.add_sub_cancel, ← hg'] at this
          exact this
      have k0' : ¬ (K : Int) = 0 := by omega
      have hwa : IntKind.i64.wrap (a : Int) = a := wrap_small (by omega) (by omega)
      have hsub : Wl.length - (Wl.length - (a + 1)) = a + 1 := by omega
      have k0'' : ¬ K = 0 := by omega
      by_cases hKS : K < S.length
      · rw [hjx, if_pos hKS]
        show ToW _ _ _ _ _ _ _ _
        refine .of ?_
        simp -implicitDefEqProofs (disch := omega) [e3, e6, e8, e9, e12, e13, e15, e16, ht, Rt, Rn, Rx, k0', k0'', xd, hwa, hx1, cx1, cx3, c_Cat, kcat, blit1]
        refine ⟨Wl.length - (a + 1), by omega, ?_⟩
        rw [hI]
        dsimp only
        rw [hsub]
        exact ⟨by omega, by simp [e3], by simp [e6], by simp [e8], by simp [e9], by simp [e12], by simp [e13], by simp [e15], rfl, SK, by simp; exact AK⟩
      · rw [hjx, if_neg hKS]
        show ToW _ _ _ _ _ _ _ _
        refine .of ?_
        simp -implicitDefEqProofs (disch := omega) [e3, e6, e8, e9, e12, e13, e15, e16, ht, Rt, Rn, Rx, k0', k0'', xd, hwa, hx1, cx1, cx3, c_Cat, kcat, blit1]
        refine ⟨Wl.length - (a + 1), by omega, ?_⟩
        rw [hI]
        dsimp only
        rw [hsub]
        exact ⟨by omega, by simp [e3], by simp [e6], by simp [e8], by simp [e9], by simp [e12], by simp [e13], by simp [e15], rfl, SK, by simp; exact AK⟩
  · rintro e s ⟨rfl, e3, e6, e8, e9, e12, e13, ht, hS, hA⟩
    show ToW _ _ _ _ _ _ _ _
    obtain ⟨va, hva⟩ : ∃ va, va = s.env 14 := ⟨_, rfl⟩
    have e14 := hva.symm
    rw [← hva, hAtk] at hA
    obtain ⟨k, hk, k8, kl, hk2⟩ := hA
    rw [List.drop_length] at hk2
    obtain ⟨O5, hO5⟩ : ∃ O5, O5 = s.objs := ⟨_, rfl⟩
    have ho := hO5.symm
    rw [← hO5] at hS
    obtain ⟨o4, z0, z1, zx, zy, zn, zl⟩ := gB hS
    obtain ⟨kd, kc, ki⟩ := bytesOk (objs := O5) (ofIntsR_of hk)
    have N5 := N1.old o4
    obtain ⟨r6, n6, p6⟩ := s_SeekT N5 (t3 O5) lo8 lol
    have p6 := p6 _ _ _ _ _ _ _ rfl N5 (t3 O5)
    unfold SeekTP at p6
    rw [← hW] at p6
    have n6 : k_SeekT [.ptr 3 0 0, v3] O5 = some r6 := n6
    cases hWW : Wl with
    | nil =>
      rw [hWW] at p6
      obtain ⟨O6, w6, rfl, old6⟩ := p6
      have S6 := o4.trans old6
      have g6 : Ab.getObj O6 r 0 = some [x] := by rw [old6.2 r 0 (by omega)]; exact zx
      have g7 : Ab.getObj O6 1 0 = some [.bool false] := by rw [old6.2 1 0 (by omega)]; exact z1
      have hf := hset (O := O6) true (by have := old6.1; omega)
      have xl0 : lenV Try.prog 27 x = some (.int .i64 0) := by rw [xl, hWW]; rfl
      refine .of ?_
      simp -implicitDefEqProofs (maxSteps := 1000000) (disch := omega) [e3, e6, e8, e9, e12, e13, e14, ht, ho, d3, c_SeekT, n6, g6, g7, xl0, xd, hf, setCells]
    | cons e l =>
      rw [hWW] at p6
      obtain ⟨O6, w6, rfl, old6⟩ := p6
      have N6 := N5.old old6
      have t6 : ofIntsR .u8 O6 va = some k := ofIntsR_of hk
      obtain ⟨r7, n7, p7⟩ := s_SeekT N6 t6 k8 kl
      have p7 := p7 _ _ _ _ _ _ _ rfl N6 t6
      unfold SeekTP at p7
      rw [hk2] at p7
      obtain ⟨O7, w7, rfl, old7⟩ := p7
      have n7 : k_SeekT [.ptr 3 0 0, va] O6 = some (.tup [.nils, .int .i64 0, .bool false], some (O7, w7)) := n7
      have old57 := old6.trans old7
      have g6 : Ab.getObj O6 r 0 = some [x] := by rw [old6.2 r 0 (by omega)]; exact zx
      have g7 : Ab.getObj O7 r 0 = some [x] := by rw [old57.2 r 0 (by omega)]; exact zx
      have g8 : Ab.getObj O7 (r + 1) 0 = some [y] := by rw [old57.2 (r + 1) 0 (by omega)]; exact zy
      have g9 : Ab.getObj O7 1 0 = some [.bool false] := by rw [old57.2 1 0 (by omega)]; exact z1
      have hf := hset (O := O7) true (by have := old57.1; omega)
      have hlt : 0 < Wl.length := by rw [hWW]; simp
      have hx1 := xi .i64 0 hlt
      obtain ⟨cx, cx1, cx2, cx3⟩ := xa O7 (o4.trans old57) 0 hlt
      rw [nth_map hlt, hWW] at cx2
      have cx2 : ofInts .u8 cx = some e.1 := cx2
      have dyR := ints_old dy (o4.trans old57)
      obtain ⟨-, -, yi, ya⟩ := is8 dyR
      have hy1 := yi .i64 0 (by rw [List.length_map]; exact hlt)
      have hy2 := ya 0 (by rw [List.length_map]; exact hlt)
      rw [nth_map hlt] at hy2
      have hnz : nth Wl 0 = e := by rw [hWW]; rfl
      rw [hnz] at hy2
      have hx1 : indexV Try.prog 27 x (.int .i64 0) = some (atV x 0) := hx1
      have hy1 : indexV Try.prog 22 y (.int .i64 0) = some (ptAt y (ints .i64 (Wl.map (·.2))) 0) := hy1
      obtain ⟨yp, hyp⟩ : ∃ yp, yp = ptAt y (ints .i64 (Wl.map (·.2))) 0 := ⟨_, rfl⟩
      rw [← hyp] at hy1 hy2
      have hem : e ∈ m := by
        have h1 : e ∈ Wl := by rw [hWW]; simp
        rw [hW] at h1
        unfold highM at h1
        exact (List.dropWhile_sublist _).subset h1
      obtain ⟨q8, ql⟩ := m8 e hem
      have sm : k_SameR [.lst .frozen (ints .u8 e.1) e.1.length, cx] O7 = some (.bool true, none) := by
        have q1 : ofIntsR .u8 O7 (.lst .frozen (ints .u8 e.1) e.1.length) = some e.1 := ofIntsR_of (ofInts_lst rfl)
        have q2 : ofIntsR .u8 O7 cx = some e.1 := ofIntsR_of cx2
        simp (disch := omega) [k_SameR, q1, q2]
      have hl0 : ¬ Wl.length = 0 := by omega
      have hl1 : ¬ (Wl.length : Int) = 0 := by omega
      obtain ⟨wn, hwn⟩ : ∃ wn, wn = Wl.length := ⟨_, rfl⟩
      rw [← hwn] at xl hl0 hl1
      obtain ⟨g, hg'⟩ : ∃ g, g = e.1 := ⟨_, rfl⟩
      obtain ⟨vl, hvl⟩ : ∃ vl, vl = e.2 := ⟨_, rfl⟩
      rw [← hg'] at sm n6
      rw [← hvl] at hy2 n6
      refine .of ?_
      simp -implicitDefEqProofs (maxSteps := 1000000) (disch := omega) [e3, e6, e8, e9, e12, e13, e14, ht, ho, d3, c_SeekT, n6, n7, g6, g7, g8, g9, xl, hl0, hl1, xd, yd, kd, hx1, cx1, cx3, hy1, hy2, c_SameR, sm, hf, setCells])

end Go.Proofs.Ytdfcbophcfjakaa.B
set_option maxRecDepth 20000
set_option maxHeartbeats 1000000
namespace Go.Proofs.Ytdfcbophcfjakaa.B
open Go Go.Ab
theorem walk_SkipPages {D n : Nat} {vs : List V} {args : Array Value} {W : World} (hS : ShpAll Try.prog D 1048576 n [22, 27, 3, 30] vs) (hA : AR (top W) W vs args.toList) : Calls Try.prog 6 args W fun e W' => e = .returned (.bool true) ∧ Go.RowKit.Below W.heap.size W W' := by
  match vs, hS with
  | [v0, v1, v2, v3], ⟨s0, s1, s2, s3, _⟩ =>
    obtain ⟨la, d0, m0, -⟩ := in_i64s s0
    obtain ⟨ss, d1, m1, o1, hM⟩ := in_txOk s1
    obtain ⟨p, rfl, -⟩ := in_int u3 (by kernel_rfl) s2
    obtain ⟨a, d3, b3, n3, -⟩ := in_bytes s3
    have hM : ss.length ≤ 1048576 := hM.resolve_left (by decide)
    refine whole fit T_SkipPages_ok (fn := Try.f6) (by kernel_rfl) (by kernel_rfl) ?_ hA
    show k_SkipPages [v0, v1, .int .i64 p, v3] [] = _
    have h2 : la.length < 17592186044000 ∧ ss.length < 3999990 ∧ txOk ss ∧ b8 a = true ∧ a.length < 140737488355000 := ⟨by omega, by omega, o1, b3, by omega⟩
    simp only [k_SkipPages, d0, d1, d3, pre_pos h2]

end Go.Proofs.Ytdfcbophcfjakaa.B

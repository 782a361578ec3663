import Derived.Test.YtdfcbophcfjakaaSkA
set_option linter.unusedSimpArgs false
set_option linter.unusedVariables false
set_option linter.unusedSectionVars false
set_option maxRecDepth 20000
set_option maxHeartbeats 1000000
namespace Go.Proofs.Ytdfcbophcfjakaa.B
open Go Go.Ab
/-! Get -/
def valM (m : Kvs) (k : List Int) : Int := match highM m k with | e :: _ => if e.1 = k then e.2 else 0 | [] => 0
theorem skX_app {objs Y : List AO} {l : V} {r : Nat × Nat × Nat × V × Int × Int × List V} (h : skX objs l = some r) : skX (objs ++ Y) l = some r := by
  obtain ⟨b, nv, c, hv, tk, hg, X⟩ := r
  obtain ⟨rfl, g1, g2, g3⟩ := skX_inv h
  have e1 : Ab.getObj (objs ++ Y) (b + 1) 0 = some [.ref b nv 0 c 14, hv, .int .i64 tk, .int .i64 hg] := (getObj_app (getObj_lt g1)).trans g1
  have e2 : Ab.getObj (objs ++ Y) b nv = some X := (getObj_app (getObj_lt g2)).trans g2
  simp [skX, e1, e2, g3]
theorem tw_zero {tw : List Int} (h : tw.length = 12) : setCells [V.int .i64 0, V.int .i64 0, V.int .i64 0, V.int .i64 0, V.int .i64 0, V.int .i64 0, V.int .i64 0, V.int .i64 0, V.int .i64 0, V.int .i64 0, V.int .i64 0, V.int .i64 0] 0 (ints .i64 tw) = ints .i64 tw := by
  unfold setCells
  rw [List.take_zero, List.nil_append, List.drop_of_length_le (by simp [h]), List.append_nil]
/-- What a search tells. -/
structure Found (objs : List AO) (b : Nat) (kv : V) (k : List Int) (m : Kvs) (hs : List Int) (tk : Nat) (hg : Int) (c : Nat) (f : Nat → Nd) (ord : List Nat) (ht : Nat → Nat) (nv : Nat) (hv : V) (X : List V) (P S : List Nat) : Prop where
  I : SkI objs b c f ord ht hs tk hg nv hv X
  C : Cut f ord k P S
  mm : m = kvs f ord
  find : k_find [.ptr (b + 1) 0 0, kv] objs = some (.tup [.agg (ints .i64 (twL fun h => (atH ht h P : Int))), .int .i64 ((S.headD 0 : Nat) : Int)], none)
  is : ∀ Y, k_is [.ptr (b + 1) 0 0, .int .i64 ((S.headD 0 : Nat) : Int), kv] (objs ++ Y) = some (.bool (isM m k), none)
  no : isM m k = false → ∀ j l, S = j :: l → (f j).key ≠ k
  yes : isM m k = true → ∃ j l, S = j :: l ∧ (f j).key = k
theorem found {objs : List AO} {b : Nat} {m : Kvs} {hs : List Int} {tk : Nat} {hg : Int} {kv : V} {k : List Int} (M : SkM objs b m hs tk hg) (hk : ofIntsR .u8 objs kv = some k) (k8 : b8 k = true) (kl : k.length < 140737488355000) : ∃ c f ord ht nv hv X P S, Found objs b kv k m hs tk hg c f ord ht nv hv X P S := by
  obtain ⟨c0, f0, ord0, ht0, nv0, hv0, X0, I0, rfl⟩ := M.ex
  obtain ⟨P0, S0, C0⟩ := I0.lnk.cut k
  obtain ⟨r, h1, l, kv', b1, c, f, ord, ht, hs1, tk1, hg1, nv, hv, X, k1, P, S, e1, K, rfl⟩ := s_find (objs := objs) (l := .ptr (b + 1) 0 0) (kv := kv) ⟨rfl, I0, hk, k8, kl, C0⟩
  obtain ⟨rfl, I, hk1, -, -, C⟩ := K
  simp only [List.cons.injEq, and_true, V.ptr.injEq] at e1
  obtain ⟨e2, rfl⟩ := e1
  have e2 : b1 = b := by omega
  subst e2
  rw [hk] at hk1
  cases hk1
  obtain ⟨u1, rfl, rfl, rfl⟩ := I0.uniq I
  have hhi : highM (kvs f0 ord0) k = kvs f S := by rw [u1]; exact (cut_kvs C).2
  refine ⟨c, f, ord, ht, nv, hv, X, P, S, I, C, u1, h1, fun Y => ?_, fun h j l hS => ?_, fun h => ?_⟩
  · have hX := skX_app (Y := Y) I.toX
    cases hS : S with
    | nil =>
      have : isM (kvs f0 ord0) k = false := by unfold isM; rw [hhi, hS]; rfl
      simp [k_is, hX, this]
    | cons j l =>
      have hjo : j ∈ ord := by rw [C.app, hS]; simp
      obtain ⟨j0, jc⟩ := I.lnk.mem j hjo
      obtain ⟨q1, q2, q3⟩ := I.lnk.key j hjo
      have hxj := I.xk j jc
      have e : isM (kvs f0 ord0) k = decide ((f j).key = k) := by unfold isM; rw [hhi, hS]; rfl
      have hkY := ofIntsR_app (m := Y) hk
      have jz : ¬ (j : Int) = 0 := by omega
      have jz2 : ¬ j = 0 := by omega
      have jz3 : 0 < j := j0
      simp [k_is, hX, hxj, of_get hxj, q1, hkY, q2, k8, jz2, jz3, jc, e]
  · have e : isM (kvs f0 ord0) k = decide ((f j).key = k) := by unfold isM; rw [hhi, hS]; rfl
    rw [e] at h
    exact of_decide_eq_false h
  · unfold isM at h
    rw [hhi] at h
    cases hS : S with
    | nil => rw [hS] at h; cases h
    | cons j l =>
      rw [hS] at h
      exact ⟨j, l, rfl, of_decide_eq_true h⟩
def p_Get : List V → List AO → Rs → Prop := fun args objs r => ∀ b m hs tk hg kv k, args = [.ptr (b + 1) 0 0, kv] → SkM objs b m hs tk hg → ofIntsR .u8 objs kv = some k → r = (.tup [.int .i64 (valM m k), .bool (isM m k)], none)
noncomputable def k_Get : Ab.Spec := relF (fun a o r => p_Get a o r ∧ EndsW Try.prog (annOf [] [] [] false []) T_take 20 Try.f20 a o r)
noncomputable def T_Get : CallF := withF T_take 20 k_Get
theorem T_Get_ok : CallOk Try.prog T_Get := con_ofW (A := annOf [] [] [] false []) fit T_take_ok (fn := Try.f20) (by kernel_rfl) (by kernel_rfl) (fun args objs r h0 => (relF_inv h0).2)
theorem s_Get  {objs : List AO} {b : Nat} {m : Kvs} {hs : List Int} {tk : Nat} {hg : Int} {kv : V} {k : List Int} (M : SkM objs b m hs tk hg) (hk : ofIntsR .u8 objs kv = some k) (k8 : b8 k = true) (kl : k.length < 140737488355000) : ∃ r, k_Get [.ptr (b + 1) 0 0, kv] objs = some r ∧ p_Get [.ptr (b + 1) 0 0, kv] objs r := by
  have c_find : ∀ a o, T_take 36 a o = k_find a o := fun _ _ => rfl
  have c_is : ∀ a o, T_take 37 a o = k_is a o := fun _ _ => rfl
  have goal : ∀ r : Rs, r = (V.tup [.int .i64 (valM m k), .bool (isM m k)], none) → p_Get [.ptr (b + 1) 0 0, kv] objs r := by
    intro r hr b' m' hs' tk' hg' kv' k' e M' hk'
    simp only [List.cons.injEq, and_true, V.ptr.injEq] at e
    obtain ⟨e, rfl⟩ := e
    have e : b = b' := by omega
    subst e
    rw [hk] at hk'
    cases hk'
    obtain ⟨rfl, -⟩ := M.uniq M'
    exact hr
  refine rel_goT _ rfl rfl ?_
  obtain ⟨c, f, ord, ht, nv, hv, X, P, S, F⟩ := found M hk k8 kl
  obtain ⟨-, kd, -⟩ := bsR hk
  have hfi := F.find
  have his := F.is [.cells (ints .i64 (twL fun h => (atH ht h P : Int))) 0]
  have hX := skX_app (Y := [.cells (ints .i64 (twL fun h => (atH ht h P : Int))) 0]) F.I.toX
  obtain ⟨-, g1, g2, g3⟩ := skX_inv hX
  have hhi : highM m k = kvs f S := by rw [F.mm]; exact (cut_kvs F.C).2
  obtain ⟨tw, htw⟩ : ∃ tw, tw = twL fun h => (atH ht h P : Int) := ⟨_, rfl⟩
  have twl : tw.length = 12 := by rw [htw, twL_len]
  rw [← htw] at hfi his g1 g2
  have hlt := getObj_lt g2
  have hz := tw_zero twl
  obtain ⟨O, hO⟩ : ∃ O, O = objs ++ [.cells (ints .i64 tw) 0] := ⟨_, rfl⟩
  have hO' : objs ++ [AO.cells (ints .i64 tw) 0] = O := hO.symm
  rw [← hO] at his g1 g2
  cases hi : isM m k with
  | false =>
    rw [hi] at his
    have hv0 : valM m k = 0 := by
      unfold valM
      rw [hhi]
      cases hS : S with
      | nil => rfl
      | cons j l => show (if (f j).key = k then _ else _) = _; rw [if_neg (F.no hi j l hS)]
    obtain ⟨a, ha⟩ : ∃ a, a = S.headD 0 := ⟨_, rfl⟩
    rw [← ha] at hfi his
    simp -implicitDefEqProofs (disch := omega) [kd, c_find, hfi, hz, twl, hO', c_is, his, set_last, getObj_last]
    exact goal _ (by rw [hv0, hi])
  | true =>
    rw [hi] at his
    obtain ⟨j, l, hS, hkey⟩ := F.yes hi
    have hjo : j ∈ ord := by rw [F.C.app, hS]; simp
    obtain ⟨j0, jc⟩ := F.I.lnk.mem j hjo
    have hv1 : valM m k = (f j).val := by
      unfold valM
      rw [hhi, hS]
      show (if (f j).key = k then _ else _) = _
      rw [if_pos hkey]
    have hxv := F.I.xv j jc
    rw [hS, show (j :: l).headD 0 = j from rfl] at hfi his
    simp -implicitDefEqProofs (disch := omega) [kd, c_find, hfi, hz, twl, hO', c_is, his, set_last, getObj_last, g1, g2, g3, jc, hxv, of_get hxv]
    exact goal _ (by rw [hv1, hi])

end Go.Proofs.Ytdfcbophcfjakaa.B
set_option maxRecDepth 20000
set_option maxHeartbeats 1000000
namespace Go.Proofs.Ytdfcbophcfjakaa.B
open Go Go.Ab
/-! Put -/
structure FrB (b : Nat) (O O' : List AO) : Prop where
  le : O.length ≤ O'.length
  same : ∀ id, id < O.length → id ≠ b → id ≠ b + 1 → O'[id]? = O[id]?
def tkN (hs : List Int) (tk : Nat) : Nat := if hs = [] then tk else tk + 1
def hgtN (hs : List Int) (tk : Nat) : Int := if hs = [] then 1 else nth hs (tk % hs.length)
theorem hgtN_range {hs : List Int} (h : ∀ x ∈ hs, 1 ≤ x ∧ x ≤ 12) (tk : Nat) : 1 ≤ hgtN hs tk ∧ hgtN hs tk ≤ 12 := by
  unfold hgtN
  split
  · omega
  · rename_i h0
    exact h _ (nth_mem (Nat.mod_lt _ (List.length_pos_iff.2 h0)))
theorem Lnk.congr {c : Nat} {f f' : Nat → Nd} {ord : List Nat} {ht : Nat → Nat} (L : Lnk c f ord ht) (h : ∀ i, (f' i).nx = (f i).nx ∧ (f' i).key = (f i).key ∧ (f' i).kv = (f i).kv) : Lnk c f' ord ht :=
  ⟨L.len, L.mem, L.h0, L.hp, fun A i B e k hk => by rw [(h i).1]; exact L.nx A i B e k hk, L.srt.imp fun {a b} q => by rw [(h a).2.1, (h b).2.1]; exact q, fun i hi => by rw [(h i).2.1, (h i).2.2]; exact L.key i hi⟩
theorem hts_keep {O O' : List AO} {b : Nat} {hv : V} {hs : List Int} (h : ofIntsR .i64 O hv = some hs ∧ (hv = .nils ∨ ∃ hver, hv = .ref (b + 2) hver 0 hs.length 1 ∧ hs ≠ []) ∧ ∀ x ∈ hs, 1 ≤ x ∧ x ≤ 12) (hk : hs ≠ [] → ∀ cs v, O[b + 2]? = some (.cells cs v) → O'[b + 2]? = some (.cells cs v)) : ofIntsR .i64 O' hv = some hs ∧ (hv = .nils ∨ ∃ hver, hv = .ref (b + 2) hver 0 hs.length 1 ∧ hs ≠ []) ∧ ∀ x ∈ hs, 1 ≤ x ∧ x ≤ 12 := by
  refine ⟨?_, h.2⟩
  rcases ofIntsR_inv h.1 with q | ⟨id, ver, off, cs, rfl, q1, q2, q3⟩
  · exact ofIntsR_of q
  · rcases h.2.1 with z | ⟨hver, z, hne⟩
    · cases z
    · simp only [V.ref.injEq] at z
      obtain ⟨rfl, -⟩ := z
      have q4 := getObj_of (hk hne _ _ (getObj_get q1))
      simp only [ofIntsR, q4, q2, ofCellsI_ints, Option.bind_some]
      rw [if_pos ⟨trivial, q3⟩]
theorem fitN {kc : V} (h1 : isDef kc = true) (h2 : cellsOf kc = [kc]) (v : Int) : fillV (placeOf Try.prog 75) [V.nils, V.int .i64 0, V.int .i64 0, V.int .i64 0, V.int .i64 0, V.int .i64 0, V.int .i64 0, V.int .i64 0, V.int .i64 0, V.int .i64 0, V.int .i64 0, V.int .i64 0, V.int .i64 0, V.int .i64 0] [(0, kc), (1, .int .i64 v)] = some [kc, .int .i64 v, V.int .i64 0, V.int .i64 0, V.int .i64 0, V.int .i64 0, V.int .i64 0, V.int .i64 0, V.int .i64 0, V.int .i64 0, V.int .i64 0, V.int .i64 0, V.int .i64 0, V.int .i64 0] := by simp [fillV, setCells, h1, h2]
theorem lit14 {Y : List V} (h : Y.length = 14) : listV Try.prog 58 1 [(0, .agg Y)] = some (Y, 14) := by
  have hz : (zeros [V.nils, V.int .i64 0, V.int .i64 0, V.int .i64 0, V.int .i64 0, V.int .i64 0, V.int .i64 0, V.int .i64 0, V.int .i64 0, V.int .i64 0, V.int .i64 0, V.int .i64 0, V.int .i64 0, V.int .i64 0] 1).length = 14 := rfl
  have hs : setCells (zeros [V.nils, V.int .i64 0, V.int .i64 0, V.int .i64 0, V.int .i64 0, V.int .i64 0, V.int .i64 0, V.int .i64 0, V.int .i64 0, V.int .i64 0, V.int .i64 0, V.int .i64 0, V.int .i64 0, V.int .i64 0] 1) 0 Y = Y := by
    unfold setCells
    rw [List.take_zero, List.nil_append, List.drop_of_length_le (by rw [hz]; omega), List.append_nil]
  simp [listV, fillV, h, hz, hs]
def PutP (objs : List AO) (b : Nat) (m : Kvs) (hs : List Int) (tk : Nat) (hg : Int) (k : List Int) (v : Int) (r : Rs) : Prop :=
  ∃ objs' low', r = (.bool (!isM m k), some (objs', low')) ∧ SkM objs' b (putM m k v) hs (if isM m k = true then tk else tkN hs tk) (if isM m k = true then hg else max hg (hgtN hs tk)) ∧ FrB b objs objs'
theorem kvs_upd {f f' : Nat → Nd} {j : Nat} {l : List Nat} (h : ∀ i, i ≠ j → (f' i).key = (f i).key ∧ (f' i).val = (f i).val) (hj : j ∉ l) : kvs f' l = kvs f l := by
  unfold kvs
  refine List.map_congr_left fun i hi => ?_
  have := h i (fun e => hj (by rw [← e]; exact hi))
  rw [this.1, this.2]
def p_Put : List V → List AO → Rs → Prop := fun args objs r => ∀ b m hs tk hg kv k v, args = [.ptr (b + 1) 0 0, kv, .int .i64 v] → SkM objs b m hs tk hg → ofIntsR .u8 objs kv = some k → PutP objs b m hs tk hg k v r
noncomputable def k_Put : Ab.Spec := relF (fun a o r => p_Put a o r ∧ EndsW Try.prog (annOf [] [80] [] true [38]) T_Get 17 Try.f17 a o r)
noncomputable def T_Put : CallF := withF T_Get 17 k_Put
theorem T_Put_ok : CallOk Try.prog T_Put := con_ofW (A := annOf [] [80] [] true [38]) fit T_Get_ok (fn := Try.f17) (by kernel_rfl) (by kernel_rfl) (fun args objs r h0 => (relF_inv h0).2)
theorem s_Put  {objs : List AO} {b : Nat} {m : Kvs} {hs : List Int} {tk : Nat} {hg : Int} {kv : V} {k : List Int} {v : Int} (M : SkM objs b m hs tk hg) (hk : ofIntsR .u8 objs kv = some k) (k8 : b8 k = true) (kl : k.length < 140737488355000) (hml : m.length < 3999990) (htk : tk < 3999990) : ∃ r, k_Put [.ptr (b + 1) 0 0, kv, .int .i64 v] objs = some r ∧ p_Put [.ptr (b + 1) 0 0, kv, .int .i64 v] objs r := by
  have c_find : ∀ a o, T_Get 36 a o = k_find a o := fun _ _ => rfl
  have c_is : ∀ a o, T_Get 37 a o = k_is a o := fun _ _ => rfl
  have c_CloneR : ∀ a o, T_Get 33 a o = k_CloneR a o := fun _ _ => rfl
  have c_take : ∀ a o, T_Get 38 a o = k_take a o := fun _ _ => rfl
  have goal : ∀ r : Rs, PutP objs b m hs tk hg k v r → p_Put [.ptr (b + 1) 0 0, kv, .int .i64 v] objs r := by
    intro r hr b' m' hs' tk' hg' kv' k' v' e M' hk'
    simp only [List.cons.injEq, and_true, V.ptr.injEq, V.int.injEq, true_and] at e
    obtain ⟨e, rfl, rfl⟩ := e
    have e : b = b' := by omega
    subst e
    rw [hk] at hk'
    cases hk'
    obtain ⟨rfl, rfl, rfl, rfl⟩ := M.uniq M'
    exact hr
  obtain ⟨c, f, ord, ht, nv, hv, X, P, S, F⟩ := found M hk k8 kl
  obtain ⟨-, kd, -⟩ := bsR hk
  have hfi := F.find
  obtain ⟨tw, htw⟩ : ∃ tw, tw = twL fun h => (atH ht h P : Int) := ⟨_, rfl⟩
  have twl : tw.length = 12 := by rw [htw, twL_len]
  have his := F.is [.cells (ints .i64 tw) 0]
  have hX := skX_app (Y := [.cells (ints .i64 tw) 0]) F.I.toX
  obtain ⟨-, g1, g2, g3⟩ := skX_inv hX
  obtain ⟨hlm, hhm⟩ := cut_kvs F.C
  rw [← F.mm] at hlm hhm
  have hml2 : m.length = ord.length := by rw [F.mm]; simp [kvs]
  have hcl := F.I.lnk.len
  rw [← htw] at hfi
  have hz := tw_zero twl
  have hb1 : b + 1 < objs.length := getObj_lt (getObj_of F.I.head)
  obtain ⟨n, hn⟩ : ∃ n, n = objs.length := ⟨_, rfl⟩
  cases hi : isM m k with
  | true =>
    rw [hi] at his
    obtain ⟨j, l, hS, hkey⟩ := F.yes hi
    have hjo : j ∈ ord := by rw [F.C.app, hS]; simp
    obtain ⟨j0, jc⟩ := F.I.lnk.mem j hjo
    have hnd := F.I.lnk.nodup
    rw [F.C.app, hS] at hnd
    have hnd2 := (List.nodup_cons.1 hnd).2
    have hjP : j ∉ P := fun q => (List.nodup_append.1 hnd2).2.2 j q j (by simp) rfl
    have hjl : j ∉ l := (List.nodup_cons.1 (List.nodup_append.1 hnd2).2.1).1
    obtain ⟨O, hO⟩ : ∃ O, O = objs ++ [.cells (ints .i64 tw) 0] := ⟨_, rfl⟩
    have hO' : objs ++ [AO.cells (ints .i64 tw) 0] = O := hO.symm
    have hOl : O.length = objs.length + 1 := by rw [hO]; simp
    rw [← hO] at his g1 g2
    rw [hS, show (j :: l).headD 0 = j from rfl] at hfi his
    have hp1 : j * 14 + 1 + 1 ≤ c * 14 := by omega
    obtain ⟨X', hX'⟩ : ∃ X', X' = setCells X (j * 14 + 1) [.int .i64 v] := ⟨_, rfl⟩
    have hb2 : b < O.length := by omega
    obtain ⟨f', hf'⟩ : ∃ f' : Nat → Nd, f' = fun i => if i = j then { f i with val := v } else f i := ⟨_, rfl⟩
    have fj : f' j = { f j with val := v } := by rw [hf']; exact if_pos rfl
    have fo : ∀ i, i ≠ j → f' i = f i := fun i h => by rw [hf']; exact if_neg h
    have nx' : NX X' c f' := by
      rw [hX']
      refine F.I.nodeX.setV jc (fun i => ?_) (fun i => ?_)
      · by_cases e : i = j
        · subst e; rw [fj]; exact ⟨rfl, rfl⟩
        · rw [fo i e]; exact ⟨rfl, rfl⟩
      · by_cases e : i = j
        · subst e; rw [fj, if_pos rfl]
        · rw [fo i e, if_neg e]
    have L' : Lnk c f' ord ht := F.I.lnk.congr fun i => by
      by_cases e : i = j
      · subst e; rw [fj]; exact ⟨rfl, rfl, rfl⟩
      · rw [fo i e]; exact ⟨rfl, rfl, rfl⟩
    have hset : ∀ id, id ≠ b → (O.set b (.cells X' nv))[id]? = O[id]? := fun id h => List.getElem?_set_ne (fun q => h q.symm)
    have happ : ∀ id, id < objs.length → O[id]? = objs[id]? := fun id h => by rw [hO, List.getElem?_append_left h]
    have I' : SkI (O.set b (.cells X' nv)) b c f' ord ht hs tk hg nv hv X' :=
      ⟨L', by rw [hset _ (by omega), happ _ hb1]; exact F.I.head, List.getElem?_set_self hb2, nx'.xl, nx'.xk, nx'.xv, nx'.xn, hts_keep F.I.hts (fun _ cs ver h => by
        have hlt : b + 2 < objs.length := by
          rcases Nat.lt_or_ge (b + 2) objs.length with q | q
          · exact q
          · rw [List.getElem?_eq_none q] at h; cases h
        rw [hset _ (by omega), happ _ hlt]; exact h), F.I.bc, F.I.bt, F.I.bh⟩
    have hm' : putM m k v = kvs f' ord := by
      unfold putM
      rw [hi, if_pos rfl, hlm, hhm, F.C.app, hS]
      have e1 : kvs f' (P ++ j :: l) = kvs f' P ++ ((f' j).key, (f' j).val) :: kvs f' l := by unfold kvs; simp
      rw [e1, kvs_upd (f' := f') (f := f) (fun i h => by rw [fo i h]; exact ⟨rfl, rfl⟩) hjP, kvs_upd (f' := f') (f := f) (fun i h => by rw [fo i h]; exact ⟨rfl, rfl⟩) hjl, fj, hkey]
      rfl
    have fin : ∀ low', PutP objs b m hs tk hg k v (V.bool false, some (O.set b (.cells X' nv), low')) := fun low' => by
      refine ⟨_, _, by rw [hi]; rfl, ?_, by rw [List.length_set]; omega, fun id h1 h2 h3 => by rw [hset id h2, happ id h1]⟩
      rw [hi, if_pos rfl, if_pos rfl]
      exact ⟨⟨_, _, _, _, _, _, _, I', hm'⟩⟩
    refine rel_goT _ rfl rfl ?_
    simp -implicitDefEqProofs (disch := omega) [kd, c_find, hfi, hz, twl, hO', c_is, his, set_last, getObj_last, g1, g2, g3, jc, hp1, ← hX']
    exact goal _ (fin _)
  | false =>
    rw [hi] at his
    have hno := F.no hi
    have L := F.I.lnk
    have C := F.C
    have hbn : b + 1 < n := by omega
    have hts := F.I.hts
    obtain ⟨mm, hmm⟩ : ∃ mm : Nat, (mm : Int) = hgtN hs tk := ⟨(hgtN hs tk).toNat, by have := hgtN_range hts.2.2 tk; omega⟩
    have hmr := hgtN_range hts.2.2 tk
    rw [← hmm] at hmr
    obtain ⟨tk', htk'⟩ : ∃ tk', tk' = tkN hs tk := ⟨_, rfl⟩
    obtain ⟨kc, hkc⟩ : ∃ kc : V, kc = if isNils kv = true then .nils else .lst .frozen (ints .u8 k) k.length := ⟨_, rfl⟩
    have kci : ofInts .u8 kc = some k := by
      rw [hkc]
      split
      · rename_i hq
        have : kv = .nils := by cases kv <;> first | rfl | cases hq
        subst this
        have : k = [] := by simpa [ofIntsR, ofInts] using hk.symm
        rw [this]; rfl
      · exact ofInts_lst rfl
    obtain ⟨kcd, -, -, -, kc1, kc2, kc3, -⟩ := bs kci
    obtain ⟨Y, hY⟩ : ∃ Y : Nat → List V, Y = fun q => kc :: .int .i64 v :: ints .i64 (twL fun h => if h < q then (nxt ht h S : Int) else 0) := ⟨_, rfl⟩
    have Yl : ∀ q, (Y q).length = 14 := fun q => by rw [hY]; simp [twL_len]
    obtain ⟨O1, hO1⟩ : ∃ O1, O1 = objs.set (b + 1) (.cells [.ref b nv 0 c 14, hv, .int .i64 tk', .int .i64 hg] 0) := ⟨_, rfl⟩
    have O1l : O1.length = n := by rw [hO1, List.length_set, hn]
    obtain ⟨OO, hOO⟩ : ∃ OO : List V → List V → List AO, OO = fun x y => O1.set b (.cells x nv) ++ [.cells (ints .i64 tw) 0, .cells y 0] := ⟨_, rfl⟩
    have ol : ∀ x y, (OO x y).length = n + 2 := fun x y => by rw [hOO]; simp [O1l]
    have sl : ∀ x, (O1.set b (.cells x nv)).length = n := fun x => by rw [List.length_set, O1l]
    have oN : ∀ x y, Ab.getObj (OO x y) b nv = some x := fun x y => by rw [hOO]; exact (getObj_app (by rw [sl]; omega)).trans (getObj_set (by omega))
    have oH : ∀ x y, Ab.getObj (OO x y) (b + 1) 0 = some [.ref b nv 0 c 14, hv, .int .i64 tk', .int .i64 hg] := fun x y => by
      rw [hOO]
      refine (getObj_app (by rw [sl]; omega)).trans ?_
      rw [getObj_set_ne (by omega), hO1]
      exact getObj_set hb1
    have oT : ∀ x y, Ab.getObj (OO x y) n 0 = some (ints .i64 tw) := fun x y => by
      have e := getObj_end (objs := O1.set b (.cells x nv)) (l := [.cells (ints .i64 tw) 0, .cells y 0]) (v := 0)
      rw [sl] at e
      rw [hOO]; exact e
    have oY : ∀ x y, Ab.getObj (OO x y) (n + 1) 0 = some y := fun x y => by
      have e := getObj_add (objs := O1.set b (.cells x nv)) (l := [.cells (ints .i64 tw) 0, .cells y 0]) (k := 1) (v := 0)
      rw [sl] at e
      rw [hOO]; exact e
    have sN : ∀ x y x', (OO x y).set b (.cells x' nv) = OO x' y := fun x y x' => by
      rw [hOO]
      show (O1.set b _ ++ _).set b _ = _
      rw [List.set_append_left _ _ (by rw [sl]; omega), List.set_set]
    have sY : ∀ x y y', (OO x y).set (n + 1) (.cells y' 0) = OO x y' := fun x y y' => by
      rw [hOO]
      show (O1.set b _ ++ _).set (n + 1) _ = _
      rw [List.set_append_right _ _ (by rw [sl]; omega), sl, Nat.add_sub_cancel_left]; rfl
    have hxl := F.I.xl
    -- up to the boxes
    obtain ⟨OA, hOA⟩ : ∃ OA, OA = objs ++ [.cells (ints .i64 tw) 0] := ⟨_, rfl⟩
    have hOA' : objs ++ [AO.cells (ints .i64 tw) 0] = OA := hOA.symm
    have lA : OA.length = n + 1 := by rw [hOA, hn]; simp
    rw [hOA'] at his hX
    obtain ⟨OB, hOB⟩ : ∃ OB, OB = OA ++ [.cells (Y 0) 0] := ⟨_, rfl⟩
    have hOB' : OA ++ [AO.cells (Y 0) 0] = OB := hOB.symm
    have hXB : skX OB (.ptr (b + 1) 0 0) = some (b, nv, c, hv, (tk : Int), hg, X) := by rw [hOB]; exact skX_app hX
    have hkA : ofIntsR .u8 OA kv = some k := by rw [hOA]; exact ofIntsR_app hk
    have kcl : ∀ O, ofIntsR .u8 O kv = some k → k_CloneR [kv] O = some (if isNils kv = true then .nils else .lst (.fresh 1 true) (ints .u8 k) k.length, none) := fun O h => by
      simp (disch := omega) [k_CloneR, h]
    have same0 : objs.set b (.cells X nv) = objs := by
      refine List.ext_getElem? fun i => ?_
      by_cases q : b = i
      · subst q; rw [List.getElem?_set_self (by omega)]; exact F.I.nodes.symm
      · rw [List.getElem?_set_ne q]
    have htake : ∃ r, k_take [.ptr (b + 1) 0 0] OB = some (.int .i64 mm, r) ∧ ((r = none ∧ OB = OO X (Y 0)) ∨ r = some (OO X (Y 0), b + 1)) := by
      have hh : ofIntsR .i64 OB hv = some hs := by
        refine (hts_keep (O' := OB) hts fun _ cs ver h => ?_).1
        have hlt : b + 2 < objs.length := by
          rcases Nat.lt_or_ge (b + 2) objs.length with q | q
          · exact q
          · rw [List.getElem?_eq_none q] at h; cases h
        rw [hOB, hOA, List.append_assoc, List.getElem?_append_left hlt]; exact h
      have hOBe : OB = objs ++ [.cells (ints .i64 tw) 0, .cells (Y 0) 0] := by rw [hOB, hOA]; simp
      cases hs with
      | nil =>
        refine ⟨none, ?_, .inl ⟨rfl, ?_⟩⟩
        · have : (mm : Int) = 1 := hmm
          simp [k_take, hXB, hh, this]
        · have ht' : tk' = tk := htk'
          rw [hOBe, hOO, hO1, ht']
          show _ = (objs.set (b + 1) _).set b _ ++ _
          have : objs.set (b + 1) (.cells [.ref b nv 0 c 14, hv, .int .i64 (tk : Int), .int .i64 hg] 0) = objs := by
            refine List.ext_getElem? fun i => ?_
            by_cases q : b + 1 = i
            · subst q; rw [List.getElem?_set_self hb1]; exact F.I.head.symm
            · rw [List.getElem?_set_ne q]
          rw [this, same0]
      | cons h0 hs0 =>
        have ht' : (tk' : Int) = (tk : Int) + 1 := by rw [htk']; rfl
        have hne : idOf hv ≠ some (b + 1) := by
          rcases hts.2.1 with q | ⟨hver, q, -⟩
          · rw [q]; simp [idOf]
          · rw [q]; simp [idOf]
        have hlen : (h0 :: hs0).length < 140737488355328 := by
          exact F.I.bh
        have hmm2 : (mm : Int) = nth (h0 :: hs0) (tk % (h0 :: hs0).length) := hmm
        refine ⟨_, ?_, .inr rfl⟩
        have hO2 : OB.set (b + 1) (.cells [.ref b nv 0 c 14, hv, .int .i64 ((tk : Int) + 1), .int .i64 hg] 0) = OO X (Y 0) := by
          rw [hOBe, hOO, hO1, ht', List.set_append_left _ _ (by omega)]
          show _ = (objs.set (b + 1) _).set b _ ++ _
          rw [List.set_comm _ _ (by omega), same0]
        simp only [k_take, con1, Option.bind_some, hXB, hh]
        rw [if_pos ⟨by omega, by omega, hlen, hne⟩, hO2, hmm2, Int.toNat_natCast]
    obtain ⟨tr, kt, htr⟩ := htake
    refine rel_go _ rfl rfl ?_
    refine ToW.front (M := fun s => s.env 0 = .ptr (b + 1) 0 0 ∧ s.env 1 = kv ∧ s.env 2 = .int .i64 v ∧ s.toks = [] ∧ s.objs = objs) ?_ ?_
    · simp -implicitDefEqProofs (disch := omega)
      exact ⟨rfl, by simp, by simp, by simp, rfl, rfl⟩
    rintro s ⟨e0, e1, e2, ht', ho⟩
    obtain ⟨a, ha⟩ : ∃ a, a = S.headD 0 := ⟨_, rfl⟩
    rw [← ha] at hfi his
    refine ToW.front (M := fun s => s.env 0 = .ptr (b + 1) 0 0 ∧ s.env 1 = kv ∧ s.env 2 = .int .i64 v ∧ s.env 7 = .ptr n 0 0 ∧ s.env 8 = .int .i64 a ∧ s.toks = [] ∧ s.objs = OA) ?_ ?_
    · simp -implicitDefEqProofs (disch := omega) [e0, e1, e2, ht', ho, kd, c_find, hfi, hz, twl, hOA', set_last, getObj_last]
      exact ⟨rfl, by simp [e0], by simp [e1], by simp [e2], by simp [hn], by simp, rfl, rfl⟩
    clear e0 e1 e2 ht' ho
    clear s
    rintro s ⟨e0, e1, e2, e7, e8, ht', ho⟩
    refine ToW.front (M := fun s => s.env 0 = .ptr (b + 1) 0 0 ∧ s.env 1 = kv ∧ s.env 2 = .int .i64 v ∧ s.env 7 = .ptr n 0 0 ∧ s.toks = [] ∧ s.objs = OA) ?_ ?_
    · simp -implicitDefEqProofs (disch := omega) [e0, e1, e2, e7, e8, ht', ho, kd, c_is, his]
      exact ⟨rfl, by simp [e0], by simp [e1], by simp [e2], by simp [e7], rfl, rfl⟩
    clear e0 e1 e2 e7 e8 ht' ho
    clear s
    rintro s ⟨e0, e1, e2, e7, ht', ho⟩
    refine ToW.front (M := fun s => s.env 0 = .ptr (b + 1) 0 0 ∧ s.env 7 = .ptr n 0 0 ∧ s.env 9 = .ptr (n + 1) 0 0 ∧ s.toks = [] ∧ s.objs = OB) ?_ ?_
    · have kcl' := kcl OA hkA
      have fN := fitN kc1 kc2 v
      have hY0 : Y 0 = kc :: .int .i64 v :: ints .i64 (twL fun _ => 0) := by rw [hY]; simp
      have gZ : ∀ Z, Ab.getObj (OA ++ [AO.cells Z 0]) (n + 1) 0 = some Z := fun Z => by rw [← lA]; exact getObj_last
      have sZ : ∀ Z a, (OA ++ [AO.cells Z 0]).set (n + 1) a = OA ++ [a] := fun Z a => by rw [← lA]; exact set_last
      cases hq : isNils kv with
      | true =>
        rw [hq, if_pos rfl] at kcl' hkc
        subst hkc
        simp -implicitDefEqProofs (disch := omega) [e0, e1, e2, e7, ht', ho, kd, c_CloneR, kcl', lA, fN, setCells, gZ, sZ]
        exact ⟨rfl, by simp [e0], by simp [e7], by simp, rfl, by rw [hOB, hY0]; rfl⟩
      | false =>
        rw [hq, if_neg (by simp)] at kcl' hkc
        subst hkc
        simp -implicitDefEqProofs (disch := omega) [e0, e1, e2, e7, ht', ho, kd, c_CloneR, kcl', lA, fN, setCells, gZ, sZ]
        exact ⟨rfl, by simp [e0], by simp [e7], by simp, rfl, by rw [hOB, hY0]; rfl⟩
    clear e0 e1 e2 e7 ht' ho
    clear s
    rintro s ⟨e0, e7, e9, ht', ho⟩
    refine ToW.front (M := fun s => s.env 0 = .ptr (b + 1) 0 0 ∧ s.env 7 = .ptr n 0 0 ∧ s.env 9 = .ptr (n + 1) 0 0 ∧ s.env 10 = .int .i64 mm ∧ s.toks = [] ∧ s.objs = OO X (Y 0)) ?_ ?_
    · rcases htr with ⟨rfl, hOBe⟩ | rfl
      · simp -implicitDefEqProofs (disch := omega) [e0, e7, e9, ht', ho, c_take, kt]
        exact ⟨rfl, by simp [e0], by simp [e7], by simp [e9], by simp, rfl, hOBe⟩
      · simp -implicitDefEqProofs (disch := omega) [e0, e7, e9, ht', ho, c_take, kt]
        exact ⟨rfl, by simp [e0], by simp [e7], by simp [e9], by simp, rfl, rfl⟩
    clear e0 e7 e9 ht' ho
    clear s
    rintro s ⟨e0, e7, e9, e10, ht', ho⟩
    refine .of ?_
    simp -implicitDefEqProofs (disch := omega) [e0, e7, e9, e10, ht', ho, oH, oN]
    obtain ⟨J, hJ⟩ : ∃ J : Nat → St → Prop, J = (fun (q : Nat) (z : St) => z.env 0 = .ptr (b + 1) 0 0 ∧ z.env 7 = .ptr n 0 0 ∧ z.env 8 = .int .i64 c ∧ z.env 9 = .ptr (n + 1) 0 0 ∧ z.env 10 = .int .i64 mm ∧ z.env 41 = .int .i64 mm ∧ z.env 42 = .int .i64 q ∧ z.toks = [] ∧ ∃ X', z.objs = OO X' (Y q) ∧ NX X' c (putF f ht P c q)) := ⟨_, rfl⟩
    have hF0 : putF f ht P c 0 = f := by
      funext i
      unfold putF
      have : (fun k => if k < 0 ∧ i = atH ht k P then (c : Int) else (f i).nx k) = (f i).nx := by funext k; rw [if_neg (by omega)]
      rw [this]
    refine .up mm J (by rw [hJ]; exact ⟨by simp [e0], by simp [e7], by simp, by simp [e9], by simp [e10], by simp, by simp, rfl, X, rfl, by rw [hF0]; exact F.I.nodeX⟩) ?_
    clear e0 e7 e9 e10 ht' ho
    clear s
    intro q z hq hz'
    rw [hJ] at hz'
    obtain ⟨e0, e7, e8, e9, e10, e41, e42, ht', X', ho, hN⟩ := hz'
    have hxl' := hN.xl
    rcases Nat.lt_or_ge q mm with h | h
    · have hq12 : q < 12 := by omega
      have hz12 : (q : Int) < 12 := by omega
      obtain ⟨i, hi2⟩ : ∃ i, i = atH ht q P := ⟨_, rfl⟩
      have hic : i < c := by rw [hi2]; exact atH_lt L C q hq12
      have htwq : (ints .i64 tw)[q]? = some (.int .i64 (i : Int)) := by
        have : (ints .i64 tw)[q]? = some (.int .i64 (nth tw q)) := map_nth (by omega)
        rw [this, htw, twL_nth hq12, hi2]
      have x1 := hN.xn i q hic hq12
      have hval : (putF f ht P c q i).nx q = (nxt ht q S : Int) := by
        show (if q < q ∧ i = atH ht q P then (c : Int) else (f i).nx q) = _
        rw [if_neg (by omega), hi2]; exact at_next L C q hq12
      rw [hval] at x1
      have hYs : setCells (Y q) (2 + q) [.int .i64 (nxt ht q S : Int)] = Y (q + 1) := by
        rw [hY]
        have e : ∀ (l : List V) (x y : V), setCells (x :: y :: l) (2 + q) [.int .i64 (nxt ht q S : Int)] = x :: y :: setCells l q [.int .i64 (nxt ht q S : Int)] := fun l x y => by
          unfold setCells
          rw [show 2 + q = q + 1 + 1 by omega, List.take_succ_cons, List.take_succ_cons, show q + 1 + 1 + [V.int .i64 (nxt ht q S : Int)].length = q + [V.int .i64 (nxt ht q S : Int)].length + 1 + 1 by omega, List.drop_succ_cons, List.drop_succ_cons]; rfl
        show setCells (kc :: .int .i64 v :: ints .i64 _) (2 + q) _ = _
        rw [e, ints_setI (by rw [twL_len]; exact hq12), tw_set hq12]
        congr 4
        funext h'
        by_cases q1 : h' = q
        · subst q1; rw [if_pos rfl, if_pos (by omega)]
        · rw [if_neg q1]
          by_cases q2 : h' < q
          · rw [if_pos q2, if_pos (by omega)]
          · rw [if_neg q2, if_neg (by omega)]
      obtain ⟨X2, hX2⟩ : ∃ X2, X2 = setCells X' (i * 14 + 2 + q) [.int .i64 (c : Int)] := ⟨_, rfl⟩
      have hN2 : NX X2 c (putF f ht P c (q + 1)) := by
        rw [hX2]
        refine hN.setN hic hq12 (fun j => ⟨rfl, rfl⟩) (fun j k' => ?_)
        show (if k' < q + 1 ∧ j = atH ht k' P then (c : Int) else (f j).nx k') = if j = i ∧ k' = q then (c : Int) else if k' < q ∧ j = atH ht k' P then (c : Int) else (f j).nx k'
        by_cases q1 : j = i ∧ k' = q
        · rw [if_pos q1, if_pos ⟨by omega, by rw [q1.1, q1.2]; exact hi2⟩]
        · rw [if_neg q1]
          by_cases q2 : k' < q ∧ j = atH ht k' P
          · rw [if_pos q2, if_pos ⟨by omega, q2.2⟩]
          · rw [if_neg q2, if_neg fun w => ?_]
            by_cases q3 : k' = q
            · exact q1 ⟨by rw [hi2, ← q3]; exact w.2, q3⟩
            · exact q2 ⟨by omega, w.2⟩
      have hp : i * 14 + 2 + q + 1 ≤ c * 14 := by omega
      have hy2 : 2 + q + 1 ≤ 14 := by omega
      simp -implicitDefEqProofs (disch := omega) [e0, e7, e8, e9, e10, e41, e42, ht', ho, h, oH, oN, oT, oY, sN, sY, hz12, hq12, twl, htwq, of_get htwq, hic, hxl', x1, of_get x1, Yl, hYs, hp, hy2, ← hX2, wrap_small]
      rw [hJ]
      exact ⟨by simp [e0], by simp [e7], by simp [e8], by simp [e9], by simp [e10], by simp [e41], by simp, rfl, X2, rfl, hN2⟩
    · obtain rfl : q = mm := by omega
      have hY1 : (Y q).all oneCell = true := by rw [hY]; simp [kc3, ints_one]
      have hYt : List.take 14 (Y q) = Y q := List.take_of_length_le (by rw [Yl]; omega)
      have hYl := Yl q
      obtain ⟨YY, hYY⟩ : ∃ YY, YY = Y q := ⟨_, rfl⟩
      rw [← hYY] at hY1 hYt hYl ho
      have hlit := lit14 hYl
      obtain ⟨OE, hOE⟩ : ∃ OE, OE = (OO X' YY).set b (.cells (X' ++ YY) (nv + 1)) := ⟨_, rfl⟩
      have lE : OE.length = n + 2 := by rw [hOE, List.length_set, ol]
      have eH : Ab.getObj OE (b + 1) 0 = some [.ref b nv 0 c 14, hv, .int .i64 tk', .int .i64 hg] := by rw [hOE, getObj_set_ne (by omega)]; exact oH _ _
      obtain ⟨OF, hOF⟩ : ∃ OF, OF = OE.set (b + 1) (.cells [.ref b (nv + 1) 0 (c + 1) 14, hv, .int .i64 tk', .int .i64 hg] 0) := ⟨_, rfl⟩
      have fH : Ab.getObj OF (b + 1) 0 = some [.ref b (nv + 1) 0 (c + 1) 14, hv, .int .i64 tk', .int .i64 hg] := by rw [hOF]; exact getObj_set (by omega)
      obtain ⟨hg', hhg'⟩ : ∃ hg', hg' = (if (hg : Int) < q then (q : Int) else hg) := ⟨_, rfl⟩
      obtain ⟨OG, hOG⟩ : ∃ OG, OG = OF.set (b + 1) (.cells [.ref b (nv + 1) 0 (c + 1) 14, hv, .int .i64 tk', .int .i64 hg'] 0) := ⟨_, rfl⟩
      have sE : (OO X' YY).set b (.cells (X' ++ YY) (nv + 1)) = OE := hOE.symm
      have sF : OE.set (b + 1) (.cells (setCells [.ref b nv 0 c 14, hv, .int .i64 tk', .int .i64 hg] 0 [.ref b (nv + 1) 0 (c + 1) 14]) 0) = OF := by rw [hOF]; rfl
      have sG : OF.set (b + 1) (.cells (setCells [.ref b (nv + 1) 0 (c + 1) 14, hv, .int .i64 tk', .int .i64 hg] 3 [.int .i64 hg']) 0) = OG := by rw [hOG]; rfl
      have hcb : (c + 1) * 128 < 140737488355328 := by have := F.I.bc; omega
      simp -implicitDefEqProofs (disch := omega) [e0, e7, e8, e9, e10, e41, e42, ht', ho, oH, oN, oY, hYl, hYt, hlit, hxl', hY1, sE, eH, sF, fH, ← hhg', sG]
      have lG : OG.length = n + 2 := by rw [hOG, List.length_set, hOF, List.length_set, lE]
      have same : ∀ id, id < objs.length → id ≠ b → id ≠ b + 1 → OG[id]? = objs[id]? := fun id h1 h2 h3 => by
        rw [hOG, List.getElem?_set_ne (fun w => h3 w.symm), hOF, List.getElem?_set_ne (fun w => h3 w.symm), hOE, List.getElem?_set_ne (fun w => h2 w.symm), hOO]
        show ((O1.set b _) ++ _)[id]? = _
        rw [List.getElem?_append_left (by rw [sl]; omega), List.getElem?_set_ne (fun w => h2 w.symm), hO1, List.getElem?_set_ne (fun w => h3 w.symm)]
      have hq12 : 1 ≤ q ∧ q ≤ 12 := by omega
      have gne : ∀ i, i ≠ c → putG f ht P S c q kc k v i = putF f ht P c q i := fun i h => if_neg h
      have geq : putG f ht P S c q kc k v c = ⟨kc, k, v, fun h => if h < q then (nxt ht h S : Int) else 0⟩ := if_pos rfl
      have hNX := hN.snoc (g := putG f ht P S c q kc k v) (kv := kc) (v := v) (t := fun h => if h < q then (nxt ht h S : Int) else 0) (fun j hj => gne j (by omega)) (by rw [geq]) (by rw [geq]) (fun h _ => by rw [geq])
      have hYe : kc :: .int .i64 v :: ints .i64 (twL fun h => if h < q then (nxt ht h S : Int) else 0) = YY := by rw [hYY, hY]
      rw [hYe] at hNX
      have hcP : c ∉ P := fun w => by have := (L.mem c (by rw [C.app]; simp [w])).2; omega
      have hcS : c ∉ S := fun w => by have := (L.mem c (by rw [C.app]; simp [w])).2; omega
      have hm' : putM m k v = kvs (putG f ht P S c q kc k v) (P ++ c :: S) := by
        unfold putM
        rw [hi, if_neg (by simp), hlm, hhm]
        have e1 : kvs (putG f ht P S c q kc k v) (P ++ c :: S) = kvs (putG f ht P S c q kc k v) P ++ ((putG f ht P S c q kc k v c).key, (putG f ht P S c q kc k v c).val) :: kvs (putG f ht P S c q kc k v) S := by unfold kvs; simp
        rw [e1, kvs_upd (f' := putG f ht P S c q kc k v) (f := f) (j := c) (fun i h => by rw [gne i h]; exact ⟨rfl, rfl⟩) hcP, kvs_upd (f' := putG f ht P S c q kc k v) (f := f) (j := c) (fun i h => by rw [gne i h]; exact ⟨rfl, rfl⟩) hcS, geq]
      have I' : SkI OG b (c + 1) (putG f ht P S c q kc k v) (P ++ c :: S) (putT ht c q) hs tk' hg' (nv + 1) hv (X' ++ YY) :=
        ⟨L.put C hno hq12.1 hq12.2 kci k8 (by omega) v, by rw [hOG, List.getElem?_set_self (by rw [hOF, List.length_set, lE]; omega)], by rw [hOG, List.getElem?_set_ne (by omega), hOF, List.getElem?_set_ne (by omega), hOE, List.getElem?_set_self (by rw [ol]; omega)], hNX.xl, hNX.xk, hNX.xv, hNX.xn, hts_keep hts (fun _ cs ver h => by
          have hlt : b + 2 < objs.length := by
            rcases Nat.lt_or_ge (b + 2) objs.length with w | w
            · exact w
            · rw [List.getElem?_eq_none w] at h; cases h
          rw [same _ hlt (by omega) (by omega)]; exact h), by omega, by rw [htk']; unfold tkN; split <;> omega, F.I.bh⟩
      refine goal _ ⟨OG, _, by rw [hi]; rfl, ?_, by omega, same⟩
      rw [hi, if_neg (by simp), if_neg (by simp), ← htk', show max hg (hgtN hs tk) = hg' by rw [← hmm, hhg']; omega]
      exact ⟨⟨_, _, _, _, _, _, _, I', hm'⟩⟩

end Go.Proofs.Ytdfcbophcfjakaa.B
set_option maxRecDepth 20000
set_option maxHeartbeats 1000000
namespace Go.Proofs.Ytdfcbophcfjakaa.B
open Go Go.Ab
/-! Each, and what it yields -/
noncomputable def k_Each : Ab.Spec := con2 some some fun l low objs => match l with | .ptr h 0 0 => pre (demote low = low ∧ cellsOf low = [low] ∧ isDef low = true) (some (.fn (.func 39) [] [.ptr objs.length 0 0, .ptr (objs.length + 1) 0 0], some (objs ++ [.cells [.ptr h 0 0] 0, .cells [low] 0], objs.length))) | _ => none
noncomputable def T_Each : CallF := withF T_Put 22 k_Each
theorem T_Each_ok : CallOk Try.prog T_Each := con_of (A := annOf [] [] [] true []) fit T_Put_ok (fn := Try.f22) (by kernel_rfl) (by kernel_rfl) (by
  intro args objs r h0
  obtain ⟨l, low, _, _, rfl, hl, hk, hR⟩ := con2_inv h0
  cases hl; cases hk
  split at hR
  case h_2 => cases hR
  obtain ⟨⟨h1, h2, h3⟩, hR⟩ := pre_inv hR
  cases hR
  refine .goK _ rfl rfl rfl ?_
  simp (disch := omega) [-boxO, h1, h2, box_of h3, box_of (show isDef (V.ptr _ _ _) = true from rfl)])
theorem bytesOk {objs : List AO} {v : V} {l : List Int} (h : ofIntsR .u8 objs v = some l) : demote v = v ∧ cellsOf v = [v] ∧ isDef v = true := by
  rcases ofIntsR_inv h with h | ⟨id, ver, off, cs, rfl, -⟩
  · obtain ⟨h1, -, -, -, h2, h3, -⟩ := bs h
    exact ⟨h1, h3, h2⟩
  · exact ⟨rfl, rfl, rfl⟩
noncomputable def eclo : Code := Try.f39.body.getD .skip
theorem eclo_body : Try.f39.body = some eclo := by kernel_rfl
def eArgs (f : Nat → Nd) (j : Nat) : List V := [(f j).kv, .int .i64 (f j).val]
theorem dropN {α : Type} [Inhabited α] {b : List α} {j : Nat} (h : j < b.length) : b.drop j = nth b j :: b.drop (j + 1) := by rw [nth_lt h]; exact List.drop_eq_getElem_cons h
/-- As many rounds as there are, or up to a jump. -/
theorem each_ok {T : CallF} (hc : CallOk Try.prog T) (hT : ∀ a o, T 36 a o = k_find a o) {base : Nat} {L : Lp} {Y : Rd} (hYl : YLow base Y) {E : List AO} {Oi : Nat → List AO} {yl lo : Nat → Nat} {K : Nat} {jx : Ex} {Ox : List AO} {yx : Nat} {LB KB b c nv : Nat} {hv kv : V} {tk hg : Int} {X : List V} {f : Nat → Nd} {ord P S : List Nat} {ht : Nat → Nat} {tw : List Int} {k : List Int}
    (hLk : Lnk c f ord ht) (hC : Cut f ord k P S) (hNX : NX X c f) (hK : K ≤ S.length) (twl : tw.length = 12) (hE0 : Ab.getObj E LB 0 = some [.ptr (b + 1) 0 0]) (hE1 : Ab.getObj E KB 0 = some [kv]) (hkv : demote kv = kv) (hfi : k_find [.ptr (b + 1) 0 0, kv] E = some (.tup [.agg (ints .i64 tw), .int .i64 ((S.headD 0 : Nat) : Int)], none)) (hO0 : Oi 0 = E ++ [.cells (ints .i64 tw) 0])
    (g1 : ∀ i, i ≤ K → Ab.getObj (Oi i) LB 0 = some [.ptr (b + 1) 0 0] ∧ Ab.getObj (Oi i) (b + 1) 0 = some [.ref b nv 0 c 14, hv, .int .i64 tk, .int .i64 hg] ∧ Ab.getObj (Oi i) b nv = some X)
    (h1 : ∀ i, i < K → Y (eArgs f (nth S i)) (Oi i) .norm (Oi (i + 1)) (yl i)) (hl0 : lo 0 = E.length) (hl1 : ∀ i, i < K → lo (i + 1) = if yl i < lo i then yl i else lo i) (h2 : K < S.length → jx ≠ .norm ∧ Y (eArgs f (nth S K)) (Oi K) jx Ox yx) :
    ToL Try.prog (annOf [] [] [] false []) T 39 base L Y eclo ⟨entryEnv [.fn (.yield L.l) [] [], .ptr LB 0 0, .ptr KB 0 0], [], E, E.length⟩ (fun e s j => (e = .norm ∨ e = .ret) ∧ j = (if K < S.length then jx else .norm) ∧ s.objs = (if K < S.length then Ox else Oi K) ∧ s.low = if K < S.length then (if yx < lo K then yx else lo K) else lo K) := by
  have hmem : ∀ i, i < S.length → 0 < nth S i ∧ nth S i < c := fun i hi => hLk.mem _ (by rw [hC.app]; exact List.mem_append_right _ (nth_mem hi))
  have hxl := hNX.xl
  have hz := tw_zero twl
  have hnext : ∀ i, i < S.length → (f (nth S i)).nx 0 = ((S.drop (i + 1)).headD 0 : Nat) := fun i hi => by
    have e : 0 :: ord = (0 :: (P ++ S.take i)) ++ nth S i :: S.drop (i + 1) := by
      rw [hC.app]
      have : S = S.take i ++ nth S i :: S.drop (i + 1) := by rw [← dropN hi, List.take_append_drop]
      rw [List.cons_append, List.append_assoc, ← this]
    exact hLk.step e
  have hhd : ∀ i, i < S.length → (S.drop i).headD 0 = nth S i := fun i hi => by rw [dropN hi]; rfl
  refine ToL.front (M := fun s => s.env 0 = .fn (.yield L.l) [] [] ∧ s.env 1 = .ptr LB 0 0 ∧ s.env 5 = .int .i64 ((S.headD 0 : Nat) : Int) ∧ s.toks = [] ∧ s.objs = Oi 0 ∧ s.low = lo 0) fit.mixed hc (by kernel_rfl) ?_ ?_
  · obtain ⟨a, ha⟩ : ∃ a, a = S.headD 0 := ⟨_, rfl⟩
    rw [← ha] at hfi ⊢
    simp -implicitDefEqProofs (disch := omega) [hE0, hE1, hkv, hT, hfi, hz, twl, set_last, getObj_last]
    exact ⟨rfl, by simp, by simp, by simp, rfl, hO0.symm, hl0.symm⟩
  rintro s ⟨e0, e1, e5, ht', ho, hlo⟩
  obtain ⟨I, hI⟩ : ∃ I : Nat → St → Prop, I = (fun (i : Nat) (z : St) => i ≤ K ∧ z.env 0 = .fn (.yield L.l) [] [] ∧ z.env 1 = .ptr LB 0 0 ∧ z.env 5 = .int .i64 (((S.drop i).headD 0 : Nat) : Int) ∧ z.toks = [] ∧ z.objs = Oi i ∧ z.low = lo i) := ⟨_, rfl⟩
  refine ToL.block (ToL.up S.length I (by rw [hI]; exact ⟨by omega, e0, e1, by simpa using e5, ht', ho, hlo⟩) ?_)
  clear e0 e1 e5 ht' ho hlo
  clear s
  intro i s hi hz'
  rw [hI] at hz'
  obtain ⟨hiK, e0, e1, e5, ht', ho, hlo⟩ := hz'
  rcases Nat.lt_or_ge i S.length with h6 | h6
  case inr =>
    obtain rfl : i = S.length := by omega
    obtain rfl : K = S.length := by omega
    rw [List.drop_length] at e5
    refine ToL.outs fit.mixed hc (by kernel_rfl) ?_
    simp -implicitDefEqProofs [e5]
    exact ⟨by simp, .inl rfl, ho, hlo⟩
  obtain ⟨j, hj⟩ : ∃ j, j = nth S i := ⟨_, rfl⟩
  obtain ⟨m1, m2⟩ := hmem i h6
  have hnx := hnext i h6
  rw [hhd i h6] at e5
  rw [← hj] at m1 m2 hnx e5
  obtain ⟨gA, gB, gC⟩ := g1 i hiK
  have hjz : (0 : Int) < j := by omega
  refine ToL.front (M := fun s' => s'.env 0 = .fn (.yield L.l) [] [] ∧ s'.env 1 = .ptr LB 0 0 ∧ s'.env 5 = .int .i64 j ∧ s'.toks = [] ∧ s'.objs = Oi i ∧ s'.low = lo i) fit.mixed hc (by kernel_rfl) ?_ ?_
  · simp -implicitDefEqProofs [e0, e1, e5, ht', ho, hlo, hjz, m1]
    exact ⟨rfl, by simp [e0], by simp [e1], by simp [e5], by simp, rfl, rfl⟩
  clear e0 e1 e5 ht' ho hlo
  clear s
  rintro s ⟨e0, e1, e5, ht', ho, hlo⟩
  have xk := hNX.xk j m2
  have xv := hNX.xv j m2
  have xn := hNX.xn j 0 m2 (by omega)
  have hkj := (hLk.key j (by rw [hC.app]; exact List.mem_append_right _ (by rw [hj]; exact nth_mem h6))).1
  obtain ⟨kd, -⟩ := bs hkj
  refine ToL.seq (ToL.block ?_)
  rcases Nat.lt_or_ge i K with hK1 | hK1
  · have hY1 := h1 i hK1
    rw [← hj] at hY1
    refine ToL.seq (ToL.free (l1 := [_, _, _, _, _, _, _, _, _, _, _, _, _, _, _, _, _]) (l2 := [_]) (ds := [some 23, some 24, some 25, some 26, some 27, some 28, some 29, some 30, some 31, some 32, some 33, some 34, some 35, some 36, some 37, some 38, some 39, some 40, some 41]) rfl [.fn (.yield L.l) [] [], .ptr (b + 1) 0 0, .ptr (b + 1) 0 0, .ptr (b + 1) 0 0, .ref b nv 0 c 14, .int .i64 j, .ptr b nv (j * 14), .ptr b nv (j * 14), (f j).kv, .ptr (b + 1) 0 0, .ptr (b + 1) 0 0, .ptr (b + 1) 0 0, .ref b nv 0 c 14, .int .i64 j, .ptr b nv (j * 14), .ptr b nv (j * 14 + 1), .int .i64 (f j).val, .bool true, .bool false] (j := .norm) (objs' := Oi (i + 1)) (low' := yl i) fit.mixed hc hYl (by kernel_rfl) rfl (by kernel_rfl) ?_ ?_ ?_ ?_ ?_ ?_)
    · simp [finD, jOf]
    · simp [finD]
    · rw [ho]
      have : ∀ e : Nat → V, e 31 = (f j).kv → e 39 = .int .i64 (f j).val → (#[Operand.tmp 31, Operand.tmp 39].toList.map fun x => demote (opd e x)) = eArgs f j := fun e h1 h2 => by simp [h1, h2, kd, eArgs]
      rw [this _ (by simp [finD]) (by simp [finD])]
      exact hY1
    · simp only [AllC, finD]
      refine ⟨?_, ?_, ?_, ?_, ?_, ?_, ?_, ?_, ?_, ?_, ?_, ?_, ?_, ?_, ?_, ?_, ?_, trivial⟩
      all_goals simp -implicitDefEqProofs (disch := omega) [e0, e1, e5, ho, gA, gB, gC, hxl, m2, xk, of_get xk, xv, of_get xv, kd]
    · simp only [AllC, finD]
      refine ⟨?_, trivial⟩
      simp
    obtain ⟨s', hs'⟩ : ∃ s' : St, s' = ⟨finD [some 23, some 24, some 25, some 26, some 27, some 28, some 29, some 30, some 31, some 32, some 33, some 34, some 35, some 36, some 37, some 38, some 39, some 40, some 41] [.fn (.yield L.l) [] [], .ptr (b + 1) 0 0, .ptr (b + 1) 0 0, .ptr (b + 1) 0 0, .ref b nv 0 c 14, .int .i64 j, .ptr b nv (j * 14), .ptr b nv (j * 14), (f j).kv, .ptr (b + 1) 0 0, .ptr (b + 1) 0 0, .ptr (b + 1) 0 0, .ref b nv 0 c 14, .int .i64 j, .ptr b nv (j * 14), .ptr b nv (j * 14 + 1), .int .i64 (f j).val, .bool true, .bool false] s.env, s.toks, Oi (i + 1), if yl i < s.low then yl i else s.low⟩ := ⟨_, rfl⟩
    have f0 : s'.env 0 = .fn (.yield L.l) [] [] := by rw [hs']; simp [finD, e0]
    have f1 : s'.env 1 = .ptr LB 0 0 := by rw [hs']; simp [finD, e1]
    have f5 : s'.env 5 = .int .i64 j := by rw [hs']; simp [finD, e5]
    have f41 : s'.env 41 = .bool false := by rw [hs']; simp [finD]
    have ft : s'.toks = [] := by rw [hs']; exact ht'
    have fo : s'.objs = Oi (i + 1) := by rw [hs']
    have fl : s'.low = lo (i + 1) := by rw [hs', hl1 i hK1]; simp [hlo]
    rw [← hs']
    clear hs' e0 e1 e5 ht' ho hlo
    obtain ⟨gA2, gB2, gC2⟩ := g1 (i + 1) (by omega)
    refine ToL.last fit.mixed hc (by kernel_rfl) ?_
    simp -implicitDefEqProofs [f41]
    refine ToL.last fit.mixed hc (by kernel_rfl) ?_
    simp -implicitDefEqProofs (disch := omega) [f1, f5, fo, gA2, gB2, gC2, hxl, m2, xn, of_get xn, hnx]
    rw [hI]
    exact .inl ⟨rfl, h6, by omega, by simp [f0], by simp [f1], by simp, ft, rfl, fl⟩
  · obtain rfl : i = K := by omega
    obtain ⟨hjx, hYx⟩ := h2 h6
    rw [← hj] at hYx
    have hjn : (jOf jx).isNone = false := by
      cases jx with
      | norm => exact absurd rfl hjx
      | ret => rfl
      | exit id => rfl
    refine ToL.seq (ToL.free (l1 := [_, _, _, _, _, _, _, _, _, _, _, _, _, _, _, _, _]) (l2 := [_]) (ds := [some 23, some 24, some 25, some 26, some 27, some 28, some 29, some 30, some 31, some 32, some 33, some 34, some 35, some 36, some 37, some 38, some 39, some 40, some 41]) rfl [.fn (.yield L.l) [] [], .ptr (b + 1) 0 0, .ptr (b + 1) 0 0, .ptr (b + 1) 0 0, .ref b nv 0 c 14, .int .i64 j, .ptr b nv (j * 14), .ptr b nv (j * 14), (f j).kv, .ptr (b + 1) 0 0, .ptr (b + 1) 0 0, .ptr (b + 1) 0 0, .ref b nv 0 c 14, .int .i64 j, .ptr b nv (j * 14), .ptr b nv (j * 14 + 1), .int .i64 (f j).val, .bool false, .bool true] (j := jx) (objs' := Ox) (low' := yx) fit.mixed hc hYl (by kernel_rfl) rfl (by kernel_rfl) ?_ ?_ ?_ ?_ ?_ ?_)
    · simp [finD, hjn]
    · simp [finD]
    · rw [ho]
      have : ∀ e : Nat → V, e 31 = (f j).kv → e 39 = .int .i64 (f j).val → (#[Operand.tmp 31, Operand.tmp 39].toList.map fun x => demote (opd e x)) = eArgs f j := fun e h1 h2 => by simp [h1, h2, kd, eArgs]
      rw [this _ (by simp [finD]) (by simp [finD])]
      exact hYx
    · simp only [AllC, finD]
      refine ⟨?_, ?_, ?_, ?_, ?_, ?_, ?_, ?_, ?_, ?_, ?_, ?_, ?_, ?_, ?_, ?_, ?_, trivial⟩
      all_goals simp -implicitDefEqProofs (disch := omega) [e0, e1, e5, ho, gA, gB, gC, hxl, m2, xk, of_get xk, xv, of_get xv, kd]
    · simp only [AllC, finD]
      refine ⟨?_, trivial⟩
      simp
    obtain ⟨s', hs'⟩ : ∃ s' : St, s' = ⟨finD [some 23, some 24, some 25, some 26, some 27, some 28, some 29, some 30, some 31, some 32, some 33, some 34, some 35, some 36, some 37, some 38, some 39, some 40, some 41] [.fn (.yield L.l) [] [], .ptr (b + 1) 0 0, .ptr (b + 1) 0 0, .ptr (b + 1) 0 0, .ref b nv 0 c 14, .int .i64 j, .ptr b nv (j * 14), .ptr b nv (j * 14), (f j).kv, .ptr (b + 1) 0 0, .ptr (b + 1) 0 0, .ptr (b + 1) 0 0, .ref b nv 0 c 14, .int .i64 j, .ptr b nv (j * 14), .ptr b nv (j * 14 + 1), .int .i64 (f j).val, .bool false, .bool true] s.env, s.toks, Ox, if yx < s.low then yx else s.low⟩ := ⟨_, rfl⟩
    have f41 : s'.env 41 = .bool true := by rw [hs']; simp [finD]
    have fo : s'.objs = Ox := by rw [hs']
    have fl : s'.low = if yx < lo i then yx else lo i := by rw [hs']; simp [hlo]
    rw [← hs']
    have fin : ToS Try.prog (annOf [] [] [] false []) T 39 base (.cond (.tmp 41) .ret .skip) s' (fun e s2 => e = .ret ∧ s2 = s') := by
      refine ToS.of fit.mixed hc rfl ?_
      simp -implicitDefEqProofs [f41]
      exact ⟨rfl, rfl⟩
    obtain ⟨e', z', hsem, rfl, rfl⟩ := fin
    cases jx with
    | norm => exact absurd rfl hjx
    | ret => exact ⟨_, _, hsem, .inr ⟨by simp [leaveE], .inr rfl, (if_pos h6).symm, by rw [if_pos h6]; exact fo, by rw [if_pos h6]; exact fl⟩⟩
    | exit id => exact ⟨_, _, hsem, .inr ⟨by simp [leaveE], .inr rfl, (if_pos h6).symm, by rw [if_pos h6]; exact fo, by rw [if_pos h6]; exact fl⟩⟩

end Go.Proofs.Ytdfcbophcfjakaa.B
set_option maxRecDepth 20000
set_option maxHeartbeats 1000000
namespace Go.Proofs.Ytdfcbophcfjakaa.B
open Go Go.Ab
/-! Seek -/
theorem old_get {objs O : List AO} (h : Old objs O) {id : Nat} {cs : List V} {v : Nat} (hg : objs[id]? = some (.cells cs v)) : O[id]? = some (.cells cs v) := by
  have h1 := getObj_of hg
  exact getObj_get (by rw [h.2 _ _ (getObj_lt h1)]; exact h1)
theorem SkI.old {O O' : List AO} {b c : Nat} {f : Nat → Nd} {ord : List Nat} {ht : Nat → Nat} {hs : List Int} {tk : Nat} {hg : Int} {nv : Nat} {hv : V} {X : List V} (I : SkI O b c f ord ht hs tk hg nv hv X) (h : ∀ id cs v, (id = b ∨ id = b + 1 ∨ id = b + 2 ∧ hs ≠ []) → O[id]? = some (.cells cs v) → O'[id]? = some (.cells cs v)) : SkI O' b c f ord ht hs tk hg nv hv X :=
  ⟨I.lnk, h _ _ _ (.inr (.inl rfl)) I.head, h _ _ _ (.inl rfl) I.nodes, I.xl, I.xk, I.xv, I.xn, hts_keep I.hts fun hne cs v q => h _ _ _ (.inr (.inr ⟨rfl, hne⟩)) q, I.bc, I.bt, I.bh⟩
theorem SkM.keep {O O' : List AO} {b : Nat} {m : Kvs} {hs : List Int} {tk : Nat} {hg : Int} (M : SkM O b m hs tk hg) (h : ∀ id cs v, (id = b ∨ id = b + 1 ∨ id = b + 2 ∧ hs ≠ []) → O[id]? = some (.cells cs v) → O'[id]? = some (.cells cs v)) : SkM O' b m hs tk hg := by
  obtain ⟨c, f, ord, ht, nv, hv, X, I, e⟩ := M.ex
  exact ⟨⟨c, f, ord, ht, nv, hv, X, I.old h, e⟩⟩
theorem SkM.old {O O' : List AO} {b : Nat} {m : Kvs} {hs : List Int} {tk : Nat} {hg : Int} (M : SkM O b m hs tk hg) (h : Old O O') : SkM O' b m hs tk hg := M.keep fun _ _ _ _ q => old_get h q
theorem SkM.lt {O : List AO} {b : Nat} {m : Kvs} {hs : List Int} {tk : Nat} {hg : Int} (M : SkM O b m hs tk hg) : b + 1 < O.length := by
  obtain ⟨c, f, ord, ht, nv, hv, X, I, e⟩ := M.ex
  exact getObj_lt (getObj_of I.head)
def SeekP (objs : List AO) (m : Kvs) (k : List Int) (r : Rs) : Prop := match highM m k with
  | [] => ∃ objs' low', r = (.tup [.nils, .int .i64 0, .bool false], some (objs', low')) ∧ Old objs objs'
  | e :: _ => ∃ objs' low' id, r = (.tup [.ref id 1 0 e.1.length 1, .int .i64 e.2, .bool true], some (objs', low')) ∧ Old objs objs' ∧ objs.length ≤ id ∧ objs'[id]? = some (.cells (ints .u8 e.1) 1)
def p_Seek : List V → List AO → Rs → Prop := fun args objs r => ∀ b m hs tk hg kv k, args = [.ptr (b + 1) 0 0, kv] → SkM objs b m hs tk hg → ofIntsR .u8 objs kv = some k → SeekP objs m k r
noncomputable def k_Seek : Ab.Spec := relF (fun a o r => p_Seek a o r ∧ EndsW Try.prog (annOf [] [14,16] [] true [22]) T_Each 18 Try.f18 a o r)
noncomputable def T_Seek : CallF := withF T_Each 18 k_Seek
theorem T_Seek_ok : CallOk Try.prog T_Seek := con_ofW (A := annOf [] [14,16] [] true [22]) fit T_Each_ok (fn := Try.f18) (by kernel_rfl) (by kernel_rfl) (fun args objs r h0 => (relF_inv h0).2)
theorem s_Seek  {objs : List AO} {b : Nat} {m : Kvs} {hs : List Int} {tk : Nat} {hg : Int} {kv : V} {k : List Int} (M : SkM objs b m hs tk hg) (hk : ofIntsR .u8 objs kv = some k) (k8 : b8 k = true) (kl : k.length < 140737488355000) : ∃ r, k_Seek [.ptr (b + 1) 0 0, kv] objs = some r ∧ p_Seek [.ptr (b + 1) 0 0, kv] objs r := by
  have c_find : ∀ a o, T_Each 36 a o = k_find a o := fun _ _ => rfl
  have c_Each : ∀ a o, T_Each 22 a o = k_Each a o := fun _ _ => rfl
  have goal : ∀ r : Rs, SeekP objs m k r → p_Seek [.ptr (b + 1) 0 0, kv] objs r := by
    intro r hr b' m' hs' tk' hg' kv' k' e M' hk'
    simp only [List.cons.injEq, and_true, V.ptr.injEq] at e
    obtain ⟨e, rfl⟩ := e
    have e : b = b' := by omega
    subst e
    rw [hk] at hk'
    cases hk'
    obtain ⟨rfl, -⟩ := M.uniq M'
    exact hr
  obtain ⟨n, hn⟩ : ∃ n, n = objs.length := ⟨_, rfl⟩
  obtain ⟨kd, kc, ki⟩ := bytesOk hk
  obtain ⟨E3, hE3⟩ : ∃ E3, E3 = objs ++ [.cells [.nils] 0, .cells [.int .i64 0] 0, .cells [.bool false] 0] := ⟨_, rfl⟩
  have l3 : E3.length = n + 3 := by rw [hE3, hn]; simp
  obtain ⟨E, hE⟩ : ∃ E, E = E3 ++ [.cells [.ptr (b + 1) 0 0] 0, .cells [kv] 0] := ⟨_, rfl⟩
  have lE : E.length = n + 5 := by rw [hE, List.length_append, l3]; rfl
  have oldE : Old objs E := by rw [hE, hE3, List.append_assoc]; exact Old.ext _ _
  have hkE : ofIntsR .u8 E kv = some k := by rw [hE, hE3]; exact ofIntsR_app (ofIntsR_app hk)
  obtain ⟨c, f, ord, ht, nv, hv, X, P, S, F⟩ := found (M.old oldE) hkE k8 kl
  have hhi : highM m k = kvs f S := by rw [F.mm]; exact (cut_kvs F.C).2
  have hfi := F.find
  obtain ⟨tw, htw⟩ : ∃ tw, tw = twL fun h => (atH ht h P : Int) := ⟨_, rfl⟩
  have twl : tw.length = 12 := by rw [htw, twL_len]
  rw [← htw] at hfi
  obtain ⟨W, hW⟩ : ∃ W : V → V → V → List AO → List AO, W = fun x y z Z => objs ++ (.cells [x] 0 :: .cells [y] 0 :: .cells [z] 0 :: .cells [.ptr (b + 1) 0 0] 0 :: .cells [kv] 0 :: .cells (ints .i64 tw) 0 :: Z) := ⟨_, rfl⟩
  have wl : ∀ x y z Z, (W x y z Z).length = n + 6 + Z.length := fun x y z Z => by rw [hW, hn]; simp; omega
  have w0 : ∀ x y z Z, Ab.getObj (W x y z Z) n 0 = some [x] := fun x y z Z => by rw [hW, hn]; simp
  have w1 : ∀ x y z Z, Ab.getObj (W x y z Z) (n + 1) 0 = some [y] := fun x y z Z => by rw [hW, hn]; simp
  have w2 : ∀ x y z Z, Ab.getObj (W x y z Z) (n + 2) 0 = some [z] := fun x y z Z => by rw [hW, hn]; simp
  have w3 : ∀ x y z Z, Ab.getObj (W x y z Z) (n + 3) 0 = some [.ptr (b + 1) 0 0] := fun x y z Z => by rw [hW, hn]; simp
  have s0 : ∀ x y z Z x', (W x y z Z).set n (.cells [x'] 0) = W x' y z Z := fun x y z Z x' => by rw [hW, hn]; simp
  have s1 : ∀ x y z Z x', (W x y z Z).set (n + 1) (.cells [x'] 0) = W x x' z Z := fun x y z Z x' => by
    rw [hW, hn]
    show (objs ++ _).set (objs.length + 1) _ = _
    rw [List.set_append_right _ _ (by omega), Nat.add_sub_cancel_left]; rfl
  have s2 : ∀ x y z Z x', (W x y z Z).set (n + 2) (.cells [x'] 0) = W x y x' Z := fun x y z Z x' => by
    rw [hW, hn]
    show (objs ++ _).set (objs.length + 2) _ = _
    rw [List.set_append_right _ _ (by omega), Nat.add_sub_cancel_left]; rfl
  have wold : ∀ x y z Z, Old objs (W x y z Z) := fun x y z Z => by rw [hW]; exact Old.ext _ _
  have hE6 : E ++ [.cells (ints .i64 tw) 0] = W .nils (.int .i64 0) (.bool false) [] := by rw [hE, hE3, hW]; simp
  have wE : ∀ x y z Z (id : Nat) (v : Nat), (id = b ∨ id = b + 1) → Ab.getObj (W x y z Z) id v = Ab.getObj E id v := fun x y z Z id v hid => by
    have := M.lt
    rw [(wold x y z Z).2 _ _ (by omega), oldE.2 _ _ (by omega)]
  have gh := getObj_of F.I.head
  have gn := getObj_of F.I.nodes
  have hE0 : Ab.getObj E (n + 3) 0 = some [.ptr (b + 1) 0 0] := by rw [hE, ← l3]; simp
  have hE1 : Ab.getObj E (n + 4) 0 = some [kv] := by
    have := getObj_add (objs := E3) (l := [.cells [.ptr (b + 1) 0 0] 0, .cells [kv] 0]) (k := 1) (v := 0)
    rw [l3] at this
    rw [hE]; exact this
  refine rel_go _ rfl rfl ?_
  refine ToW.front (M := fun s => s.env 0 = .ptr (b + 1) 0 0 ∧ s.env 1 = kv ∧ s.env 4 = .ptr n 0 0 ∧ s.env 5 = .ptr (n + 1) 0 0 ∧ s.env 6 = .ptr (n + 2) 0 0 ∧ s.toks = [] ∧ s.objs = E3) ?_ ?_
  · simp -implicitDefEqProofs (disch := omega) [← hn]
    exact ⟨rfl, by simp, by simp, by simp, by simp, by simp, rfl, by rw [hE3]⟩
  rintro s ⟨e0, e1, e4, e5, e6, ht', ho⟩
  refine ToW.seq (ToW.front (M := fun s => s.env 4 = .ptr n 0 0 ∧ s.env 5 = .ptr (n + 1) 0 0 ∧ s.env 6 = .ptr (n + 2) 0 0 ∧ s.env 11 = .fn (.func 39) [] [.ptr (n + 3) 0 0, .ptr (n + 4) 0 0] ∧ s.toks = [] ∧ s.objs = E) ?_ ?_)
  · have kp : k_Each [.ptr (b + 1) 0 0, kv] E3 = some (.fn (.func 39) [] [.ptr (n + 3) 0 0, .ptr (n + 4) 0 0], some (E, n + 3)) := by
      simp [-isDef_eq, -cellsOf_eq, k_Each, con2, kd, kc, ki, hE, l3, pre_pos]
    simp -implicitDefEqProofs (disch := omega) [e0, e1, e4, e5, e6, ht', ho, kd, c_Each, kp]
    exact ⟨rfl, by simp [e4], by simp [e5], by simp [e6], by simp, rfl, rfl⟩
  clear e0 e1 e4 e5 e6 ht' ho
  clear s
  rintro s ⟨e4, e5, e6, e11, ht', ho⟩
  cases hS : S with
  | nil =>
    rw [hS] at hfi
    refine ToW.block (ToW.cut (CutOk.ofS (SemC.rangeFunc (A' := annOf [] [] [] false []) (objs' := W .nils (.int .i64 0) (.bool false) []) (low' := E.length) (j := .norm) fit T_Each_ok (fn := Try.f39) (by kernel_rfl) eclo_body (by kernel_rfl) e11 (by kernel_rfl) (by kernel_rfl) ?_) (fun x h => (by cases h))) ?_)
    · intro L
      rw [ho]
      obtain ⟨e, s', j, hsem, he, hj, ho', hl'⟩ := each_ok (T := T_Each) (L := L) (Oi := fun _ => W .nils (.int .i64 0) (.bool false) []) (yl := fun _ => 0) (lo := fun _ => E.length) (K := 0) (jx := .norm) (Ox := []) (yx := 0) (LB := n + 3) (KB := n + 4) (b := b) (c := c) (nv := nv) (hv := hv) (kv := kv) (tk := tk) (hg := hg) (X := X) (f := f) (ord := ord) (P := P) (S := []) (ht := ht) (tw := tw) (k := k) T_Each_ok c_find (roundY_low T_Each_ok) F.I.lnk (by rw [← hS]; exact F.C) F.I.nodeX (Nat.zero_le _) twl hE0 hE1 kd hfi hE6.symm (fun i _ => ⟨w3 _ _ _ _, (wE _ _ _ _ _ _ (.inr rfl)).trans gh, (wE _ _ _ _ _ _ (.inl rfl)).trans gn⟩) (fun i hi => absurd hi (Nat.not_lt_zero _)) rfl (fun i hi => absurd hi (Nat.not_lt_zero _)) (fun h => absurd h (Nat.lt_irrefl _))
      exact ⟨e, s', he, by rw [hj] at hsem; exact hsem, ho', hl'⟩
    · show ToW _ _ _ _ _ _ _ _
      refine .of ?_
      simp -implicitDefEqProofs (disch := omega) [e4, e5, e6, ht', w0, w1, w2, s0, s1, s2, setCells]
      refine goal _ ?_
      unfold SeekP
      rw [hhi, hS]
      exact ⟨_, _, rfl, wold _ _ _ _⟩
  | cons j l =>
    have hjo : j ∈ ord := by rw [F.C.app, hS]; simp
    obtain ⟨j0, jc⟩ := F.I.lnk.mem j hjo
    obtain ⟨hkj, kj8, kjl⟩ := F.I.lnk.key j hjo
    obtain ⟨jd, jn, ji⟩ := bytesOk (objs := E) (ofIntsR_of hkj)
    obtain ⟨q, hq⟩ : ∃ q, q = (f j).key := ⟨_, rfl⟩
    obtain ⟨vl, hvl⟩ : ∃ vl, vl = (f j).val := ⟨_, rfl⟩
    obtain ⟨vk, hvk⟩ : ∃ vk, vk = (f j).kv := ⟨_, rfl⟩
    rw [hS] at hfi
    have key : ∀ Y : Rd, YLow 0 Y → Y (eArgs f j) (W .nils (.int .i64 0) (.bool false) []) .ret (W (.ref (n + 6) 1 0 q.length 1) (.int .i64 vl) (.bool true) [.cells (ints .u8 q) 1]) n → ∀ L, ∃ e s', (e = Ex.norm ∨ e = Ex.ret) ∧ SemL Try.prog (annOf [] [] [] false []) T_Each 39 0 L Y eclo ⟨entryEnv [.fn (.yield L.l) [] [], .ptr (n + 3) 0 0, .ptr (n + 4) 0 0], [], E, E.length⟩ (e, s', .ret) ∧ s'.objs = (W (.ref (n + 6) 1 0 q.length 1) (.int .i64 vl) (.bool true) [.cells (ints .u8 q) 1]) ∧ s'.low = n := by
      intro Y hY h2 L
      obtain ⟨e, s', j', hsem, he, hj, ho', hl'⟩ := each_ok (T := T_Each) (L := L) (Oi := fun _ => W .nils (.int .i64 0) (.bool false) []) (yl := fun _ => 0) (lo := fun _ => E.length) (K := 0) (jx := .ret) (Ox := W (.ref (n + 6) 1 0 q.length 1) (.int .i64 vl) (.bool true) [.cells (ints .u8 q) 1]) (yx := n) (LB := n + 3) (KB := n + 4) (b := b) (c := c) (nv := nv) (hv := hv) (kv := kv) (tk := tk) (hg := hg) (X := X) (f := f) (ord := ord) (P := P) (S := j :: l) (ht := ht) (tw := tw) (k := k) T_Each_ok c_find hY F.I.lnk (by rw [← hS]; exact F.C) F.I.nodeX (Nat.zero_le _) twl hE0 hE1 kd hfi hE6.symm (fun i _ => ⟨w3 _ _ _ _, (wE _ _ _ _ _ _ (.inr rfl)).trans gh, (wE _ _ _ _ _ _ (.inl rfl)).trans gn⟩) (fun i hi => absurd hi (Nat.not_lt_zero _)) rfl (fun i hi => absurd hi (Nat.not_lt_zero _)) (fun h => ⟨by simp, h2⟩)
      rw [if_pos (show 0 < (j :: l).length from Nat.succ_pos _)] at hj ho' hl'
      exact ⟨e, s', he, by rw [hj] at hsem; exact hsem, ho', by rw [hl', if_pos (by omega)]⟩
    rw [baseOf_k]
    refine ToW.block (ToW.cut (CutOk.ofS (SemC.rangeFunc (A' := annOf [] [] [] false []) (objs' := W (.ref (n + 6) 1 0 q.length 1) (.int .i64 vl) (.bool true) [.cells (ints .u8 q) 1]) (low' := n) (j := .ret) fit T_Each_ok (fn := Try.f39) (by kernel_rfl) eclo_body (by kernel_rfl) e11 (by kernel_rfl) (by kernel_rfl) ?_) (fun x h => (by cases h))) ?_)
    · intro L
      rw [ho]
      refine key _ (roundY_low T_Each_ok) ?_ L
      have hya : eArgs f j = [vk, .int .i64 vl] := by rw [hvk, hvl]; rfl
      rw [hya]
      refine roundY_of2 (M := fun s => s.env 4 = .ptr n 0 0 ∧ s.env 5 = .ptr (n + 1) 0 0 ∧ s.env 6 = .ptr (n + 2) 0 0 ∧ s.env 7 = vk ∧ s.env 8 = .int .i64 vl ∧ s.toks = [] ∧ s.objs = W .nils (.int .i64 0) (.bool false) [] ∧ s.low = n + 6) rfl ?_ ?_
      · have hpe : parEnv (fun d => demote (s.env d)) #[12, 13].toList [vk, .int .i64 vl] = Ab.put (Ab.put (fun d => demote (s.env d)) (some 12) vk) (some 13) (.int .i64 vl) := rfl
        rw [hpe]
        rw [← hvk] at jd
        simp -implicitDefEqProofs (disch := omega) [jd]
        exact ⟨rfl, by simp [e4], by simp [e5], by simp [e6], by simp, by simp, rfl, rfl, wl _ _ _ _⟩
      rintro z ⟨f4, f5, f6, f7, f8, ft, fo, fl⟩
      rw [← hvk] at hkj
      rw [← hq] at hkj kjl
      obtain ⟨-, -, -, jx, -⟩ := bs hkj
      have wa : ∀ x y z o, W x y z [] ++ [o] = W x y z [o] := fun x y z o => by rw [hW]; simp
      have wn : ∀ x y z o v, Ab.getObj (W x y z [.cells o v]) (n + 6) v = some o := fun x y z o v => by rw [← wa]; have := wl x y z []; simp at this; rw [← this, getObj_last]
      have wt : ∀ x y z o o', (W x y z [o]).set (n + 6) o' = W x y z [o'] := fun x y z o o' => by rw [← wa]; have := wl x y z []; simp at this; rw [← this, set_last, wa]
      simp -implicitDefEqProofs (disch := omega) [f4, f5, f6, f7, f8, ft, fo, fl, w0, w1, w2, s0, s1, s2, setCells, blit0, Nat.mod_one, wl, wa, wn, wt, jx, jd, jn]
      exact ⟨rfl, rfl, rfl⟩
    · show FinP _ _ _ _ _ _ _ _
      simp -implicitDefEqProofs (disch := omega) [FinP, e4, e5, e6, ht', w0, w1, w2]
      refine ⟨.inr rfl, goal _ ?_⟩
      unfold SeekP
      rw [hhi, hS]
      show ∃ objs' low' id, _ = (V.tup [.ref id 1 0 (f j).key.length 1, .int .i64 (f j).val, .bool true], some (objs', low')) ∧ Old objs objs' ∧ objs.length ≤ id ∧ objs'[id]? = some (AO.cells (ints .u8 (f j).key) 1)
      rw [← hq, ← hvl]
      refine ⟨_, _, n + 6, rfl, wold _ _ _ _, by omega, ?_⟩
      have := wl (.ref (n + 6) 1 0 q.length 1) (.int .i64 vl) (.bool true) []
      rw [hW] at this ⊢
      simp [hn]

end Go.Proofs.Ytdfcbophcfjakaa.B

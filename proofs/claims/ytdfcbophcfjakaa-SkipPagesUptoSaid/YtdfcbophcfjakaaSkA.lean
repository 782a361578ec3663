import Derived.Test.YtdfcbophcfjakaaSkTy
import Derived.Test.YtdfcbophcfjakaaAb34
import Derived.Test.YtdfcbophcfjakaaAb43
set_option linter.unusedSimpArgs false
set_option linter.unusedVariables false
set_option linter.unusedSectionVars false
set_option maxRecDepth 20000
set_option maxHeartbeats 1000000
namespace Go.Proofs.Ytdfcbophcfjakaa.B
open Go Go.Ab
theorem fit : Fit Try.prog := fit_of (by kernel_rfl)
def Tnone : CallF := fun _ _ _ => none
theorem Tnone_ok : CallOk Try.prog Tnone := con_none
/-! slices of bytes that come in -/
theorem bs {v : V} {l : List Int} (h : ofInts .u8 v = some l) : demote v = v ∧ lenV Try.prog 30 v = some (.int .i64 l.length) ∧ (∀ k i, 0 ≤ i → i < (l.length : Int) → indexV Try.prog 30 v (.int k i) = some (.fptr (ints .u8 l) i.toNat)) ∧
    (∀ objs e, srcOf (.slice e) objs 1 v = some (ints .u8 l)) ∧ isDef v = true ∧ cellsOf v = [v] ∧ oneCell v = true ∧ ∀ b, Ab.noref b v = true := by
  have w := ofInts_inv h
  refine ⟨w.dem, w.size u30, fun k i h0 h1 => ?_, fun objs e => w.src (by simp) (by simp) objs e, w.isDef, w.cells, w.one, fun b => w.noref (by simp)⟩
  have := w.idx u30 z5 k i h0 h1
  rwa [Nat.mul_one] at this
theorem bcut {v : V} {l : List Int} (h : ofInts .u8 v = some l) (objs : List AO) (lo hi : Option V) (a b : Nat) (ha : boundV lo 0 = some a) (hb : boundV hi l.length = some b) (hab : a ≤ b) (hl : b ≤ l.length) :
    ∃ w, cutV Try.prog 30 objs v lo hi none = some w ∧ ofInts .u8 w = some ((l.take b).drop a) := by
  obtain ⟨w, h1, h2⟩ := (ofInts_inv h).cut u30 z5 objs lo hi a b ha hb hab hl
  refine ⟨w, h1, ?_⟩
  rw [Nat.mul_one, Nat.mul_one, ints_take, ints_drop] at h2
  exact h2.ofInts (by simp; omega)
theorem blit1 (c : Int) : listV Try.prog 30 1 [(0, .int .u8 c)] = some ([.int .u8 c], 1) := by simp [listV, fillV, zeros, setCells]
theorem blit0 : listV Try.prog 30 0 [] = some ([], 1) := by simp [listV, fillV, zeros]
/-- A row of bytes that is appended to; one that stands in an object. -/
def tokB (l : List Int) : V := .lst (.tok 0 1) (ints .u8 l) l.length
theorem getObj_last {objs : List AO} {cs : List V} {v : Nat} : Ab.getObj (objs ++ [.cells cs v]) objs.length v = some cs := by simp [Ab.getObj]
theorem getObj_last0 {objs : List AO} {cs : List V} {v : Nat} (n : Nat) (h : n = objs.length) : Ab.getObj (objs ++ [.cells cs v]) n v = some cs := by simp [Ab.getObj, h]
theorem set_last {objs : List AO} {a b : AO} : (objs ++ [a]).set objs.length b = objs ++ [b] := by simp
theorem take_last {objs : List AO} {a : AO} : (objs ++ [a]).take objs.length = objs := by simp
theorem getObj_two {objs : List AO} {a : AO} {cs : List V} {v : Nat} : Ab.getObj (objs ++ [a, .cells cs v]) (objs.length + 1) v = some cs := by simp [Ab.getObj]
theorem getObj_one {objs : List AO} {a : AO} {cs : List V} {v : Nat} : Ab.getObj (objs ++ [.cells cs v, a]) objs.length v = some cs := by simp [Ab.getObj]

noncomputable def k_Same : Ab.Spec := con2 (ofInts .u8) (ofInts .u8) fun a b _ => bnd a.length 140737488355328 (some (.bool (decide (a = b)), none))
noncomputable def T_Same : CallF := withF Tnone 19 k_Same
theorem T_Same_ok : CallOk Try.prog T_Same := con_of (A := annOf [] [] [] false []) fit Tnone_ok (fn := Try.f19) (by kernel_rfl) (by kernel_rfl) (by
  intro args objs r h0
  obtain ⟨v, w, a, b, rfl, ha, hb, hR⟩ := con2_inv h0
  obtain ⟨hl, hR⟩ := bnd_inv hR
  cases hR
  obtain ⟨vd, vn, vi, -⟩ := bs ha
  obtain ⟨wd, wn, wi, -⟩ := bs hb
  refine .go _ rfl rfl ?_
  by_cases hn : a.length = b.length
  · simp [vn, wn, hn]
    refine .up a.length (fun i s => s.env 0 = v ∧ s.env 1 = w ∧ s.env 5 = .int .i64 i ∧ s.toks = [] ∧ s.objs = objs ∧ s.low = objs.length ∧ ∀ j, j < i → nth a j = nth b j) (by simp) ?_
    rintro i s hi ⟨h0, h1, h5, ht, ho, hlo, hj⟩
    rcases Nat.lt_or_ge i a.length with h | h
    · by_cases he : nth a i = nth b i
      · have hf : (nth a i != nth b i) = false := by simpa using he
        have hs : ∀ j, j < i + 1 → nth a j = nth b j := fun j hj2 => by
          rcases Nat.lt_or_ge j i with h2 | h2
          · exact hj j h2
          · obtain rfl : j = i := by omega
            exact he
        simp (disch := omega) [h0, h1, h5, ht, ho, hlo, vn, wn, vi, wi, h, ints_nth, hf, wrap_small]
        exact hs
      · have hf : (nth a i != nth b i) = true := by simpa using he
        have hne : a ≠ b := fun q => he (by rw [q])
        simp (disch := omega) [h0, h1, h5, ht, ho, hlo, vn, wn, vi, wi, h, ints_nth, hf, hne]
    · have hab : a = b := ext_nth hn fun j h2 => hj j (by omega)
      have hnl : ¬ i < b.length := by omega
      simp [h0, h1, h5, ht, ho, hlo, vn, wn, hab, hnl]
  · have hf : ((a.length : Int) != (b.length : Int)) = true := by simp only [bne_iff_ne, ne_eq]; omega
    have hne : a ≠ b := fun q => hn (by rw [q])
    simp [vn, wn, hf, hne])

noncomputable def k_Copy : Ab.Spec := con1 (ofInts .u8) fun l _ => bnd l.length 140737488355300 (some (.lst (.fresh 1 true) (ints .u8 l) l.length, none))
noncomputable def T_Copy : CallF := withF T_Same 21 k_Copy
theorem T_Copy_ok : CallOk Try.prog T_Copy := con_of (A := annOf [] [5,18] [] false []) fit T_Same_ok (fn := Try.f21) (by kernel_rfl) (by kernel_rfl) (by
  intro args objs r h0
  obtain ⟨v, l, rfl, ha, hR⟩ := con1_inv h0
  obtain ⟨hl, hR⟩ := bnd_inv hR
  cases hR
  obtain ⟨vd, vn, vi, -⟩ := bs ha
  refine .go _ rfl rfl ?_
  simp [blit0]
  refine .up l.length (fun i s => s.env 0 = v ∧ s.env 3 = .ref objs.length i 0 i 1 ∧ s.env 4 = .int .i64 i ∧ s.toks = [] ∧ s.objs = objs ++ [.cells (ints .u8 (l.take i)) i] ∧ s.low = objs.length) (by simp [ints_nil]) ?_
  rintro i s hi ⟨h0, h3, h4, ht, ho, hlo⟩
  rcases Nat.lt_or_ge i l.length with h | h
  · have e := take_nth h
    simp (disch := omega) [h0, h3, h4, ht, ho, hlo, vn, vi, h, ints_nth, blit1, e, wrap_small, getObj_last, Nat.mod_one]
  · obtain rfl : i = l.length := by omega
    simp [h0, h3, h4, ht, ho, hlo, vn, getObj_last])

noncomputable def k_Cat : Ab.Spec := con2 (ofInts .u8) (ofInts .u8) fun a b _ => bnd (a.length + b.length) 140737488355300 (some (.lst (.fresh 1 false) (ints .u8 (a ++ b)) (a.length + b.length), none))
noncomputable def T_Cat : CallF := withF T_Copy 23 k_Cat
theorem T_Cat_ok : CallOk Try.prog T_Cat := con_of (A := annOf [8] [] [] false []) fit T_Copy_ok (fn := Try.f23) (by kernel_rfl) (by kernel_rfl) (by
  intro args objs r h0
  obtain ⟨v, w, a, b, rfl, ha, hb, hR⟩ := con2_inv h0
  obtain ⟨hl, hR⟩ := bnd_inv hR
  cases hR
  obtain ⟨vd, vn, vi, -⟩ := bs ha
  obtain ⟨wd, wn, wi, -⟩ := bs hb
  refine .go _ rfl rfl ?_
  simp [blit0]
  refine .up a.length (fun i s => s.env 0 = v ∧ s.env 1 = w ∧ s.env 5 = .lst (.tok 0 1) (ints .u8 (a.take i)) i ∧ s.env 6 = .int .i64 i ∧ s.toks = [i] ∧ s.objs = objs ∧ s.low = objs.length) (by simp [ints_nil]) ?_
  rintro i s hi ⟨h0, h1, h5, h6, ht, ho, hlo⟩
  rcases Nat.lt_or_ge i a.length with h | h
  · have e := take_nth h
    have hm : min i a.length = i := by omega
    simp (disch := omega) [h0, h1, h5, h6, ht, ho, hlo, vn, vi, h, ints_nth, blit1, e, wrap_small, Nat.mod_one, hm]
  · obtain rfl : i = a.length := by omega
    simp [h0, h1, h5, h6, ht, ho, hlo, vn]
    refine .up b.length (fun i s => s.env 1 = w ∧ s.env 5 = .lst (.tok 0 1) (ints .u8 (a ++ b.take i)) (a.length + i) ∧ s.env 7 = .int .i64 i ∧ s.toks = [a.length + i] ∧ s.objs = objs ∧ s.low = objs.length) (by simp [h0, h1, h5, h6, ht, ho, hlo]) ?_
    rintro i s hi ⟨h1, h5, h7, ht, ho, hlo⟩
    rcases Nat.lt_or_ge i b.length with h | h
    · have e := take_nth h
      have hm : min i b.length = i := by omega
      simp (disch := omega) [h1, h5, h7, ht, ho, hlo, wn, wi, h, ints_nth, blit1, e, wrap_small, Nat.mod_one, hm, Nat.add_assoc]
    · obtain rfl : i = b.length := by omega
      simp [h1, h5, h7, ht, ho, hlo, wn])

def mkZ (i : Int) : Int := IntKind.u8.wrap (IntKind.i64.wrap (192 + i.tmod 7))
def marks (n : Nat) : List Int := (List.range n).map fun i : Nat => mkZ i
def wide (l : List Int) : List Int := l ++ marks 64
theorem marks_len (n : Nat) : (marks n).length = n := by simp [marks]
theorem wide_len (l : List Int) : (wide l).length = l.length + 64 := by simp [wide, marks_len]
theorem marks_succ (n : Nat) : marks (n + 1) = marks n ++ [mkZ n] := by simp [marks, List.range_succ]
theorem marks_nth {n i : Nat} (h : i < n) : nth (marks n) i = mkZ i := by
  unfold marks
  rw [nth_map (by simpa using h)]
  congr 1
  simp [nth, h]
noncomputable def k_Wide : Ab.Spec := con1 (ofInts .u8) fun l _ => bnd l.length 140737488355000 (some (.lst (.fresh 1 true) (ints .u8 (wide l)) (l.length + 64), none))
noncomputable def T_Wide : CallF := withF T_Cat 25 k_Wide
theorem T_Wide_ok : CallOk Try.prog T_Wide := con_of (A := annOf [] [17] [(6, [.ref])] false []) fit T_Cat_ok (fn := Try.f25) (by kernel_rfl) (by kernel_rfl) (by
  intro args objs r h0
  have c_Copy : ∀ a o, T_Cat 21 a o = k_Copy a o := fun _ _ => rfl
  obtain ⟨v, l, rfl, ha, hR⟩ := con1_inv h0
  obtain ⟨hl, hR⟩ := bnd_inv hR
  cases hR
  obtain ⟨vd, vn, vi, -⟩ := bs ha
  refine .go _ rfl rfl ?_
  simp (disch := omega) [c_Copy, k_Copy, vd, ha]
  refine .up 64 (fun i s => s.env 3 = .ref objs.length i 0 (l.length + i) 1 ∧ s.env 4 = .int .i64 i ∧ s.toks = [] ∧ s.objs = objs ++ [.cells (ints .u8 (l ++ marks i)) i] ∧ s.low = objs.length) (by simp [marks]) ?_
  rintro i s hi ⟨h3, h4, ht, ho, hlo⟩
  rcases Nat.lt_or_ge i 64 with h | h
  · have e := marks_succ i
    have hz : (i : Int) < 64 := by omega
    simp (disch := omega) [h3, h4, ht, ho, hlo, h, hz, blit1, e, wrap_small, getObj_last, Nat.mod_one, marks_len, convV, mkZ, Nat.add_assoc]
  · obtain rfl : i = 64 := by omega
    simp [h3, h4, ht, ho, hlo, getObj_last, marks_len, wide])

noncomputable def k_Intact : Ab.Spec := con2 (ofInts .u8) (ofInts .u8) fun w l _ => bnd (w.length + l.length) 281474976710656 (some (.bool (decide (w = wide l)), none))
noncomputable def T_Intact : CallF := withF T_Wide 26 k_Intact
theorem T_Intact_ok : CallOk Try.prog T_Intact := con_of (A := annOf [] [] [] false []) fit T_Wide_ok (fn := Try.f26) (by kernel_rfl) (by kernel_rfl) (by
  intro args objs r h0
  obtain ⟨v, w, a, b, rfl, ha, hb, hR⟩ := con2_inv h0
  obtain ⟨hl, hR⟩ := bnd_inv hR
  cases hR
  obtain ⟨vd, vn, vi, -⟩ := bs ha
  obtain ⟨wd, wn, wi, -⟩ := bs hb
  refine .go _ rfl rfl ?_
  by_cases hn : a.length = b.length + 64
  · have hw : IntKind.i64.wrap ((b.length : Int) + 64) = (b.length : Int) + 64 := wrap_small (by omega) (by omega)
    have hn2 : ((a.length : Int) != (b.length : Int) + 64) = false := by simp only [bne_eq_false_iff_eq]; omega
    simp [vn, wn, hw, hn2]
    refine .up b.length (fun i s => s.env 0 = v ∧ s.env 1 = w ∧ s.env 5 = .int .i64 i ∧ s.toks = [] ∧ s.objs = objs ∧ s.low = objs.length ∧ ∀ j, j < i → nth a j = nth b j) (by simp) ?_
    rintro i s hi ⟨h0, h1, h5, ht, ho, hlo, hj⟩
    rcases Nat.lt_or_ge i b.length with h | h
    · by_cases he : nth a i = nth b i
      · have hf : (nth a i != nth b i) = false := by simpa using he
        have hs : ∀ j, j < i + 1 → nth a j = nth b j := fun j hj2 => by
          rcases Nat.lt_or_ge j i with h2 | h2
          · exact hj j h2
          · obtain rfl : j = i := by omega
            exact he
        simp (disch := omega) [h0, h1, h5, ht, ho, hlo, vn, wn, vi, wi, h, ints_nth, hf, wrap_small]
        exact hs
      · have hf : (nth a i != nth b i) = true := by simpa using he
        have hne : a ≠ wide b := fun q => he (by rw [q, wide, nth_app_l h])
        simp (disch := omega) [h0, h1, h5, ht, ho, hlo, vn, wn, vi, wi, h, ints_nth, hf, hne]
    · obtain rfl : i = b.length := by omega
      simp [h0, h1, h5, ht, ho, hlo, vn, wn]
      refine .up 64 (fun i s => s.env 0 = v ∧ s.env 1 = w ∧ s.env 6 = .int .i64 i ∧ s.toks = [] ∧ s.objs = objs ∧ s.low = objs.length ∧ ∀ j, j < i → nth a (b.length + j) = mkZ j) (by simp [h0, h1, ht, ho, hlo]) ?_
      rintro i s hi ⟨h0, h1, h6, ht, ho, hlo, hj2⟩
      rcases Nat.lt_or_ge i 64 with h | h
      · have hz : (i : Int) < 64 := by omega
        have hwi : IntKind.i64.wrap ((b.length : Int) + i) = (b.length : Int) + i := wrap_small (by omega) (by omega)
        by_cases he : nth a (b.length + i) = mkZ i
        · have hf : (nth a (b.length + i) != mkZ i) = false := by simpa using he
          have hs : ∀ j, j < i + 1 → nth a (b.length + j) = mkZ j := fun j hj3 => by
            rcases Nat.lt_or_ge j i with h2 | h2
            · exact hj2 j h2
            · obtain rfl : j = i := by omega
              exact he
          unfold mkZ at hf
          simp (disch := omega) [h0, h1, h6, ht, ho, hlo, vn, wn, vi, h, hz, ints_nth, hf, wrap_small, convV, hwi]
          exact hs
        · have hf : (nth a (b.length + i) != mkZ i) = true := by simpa using he
          have hne : a ≠ wide b := fun q => he (by rw [q, wide, nth_app_r (by omega), Nat.add_sub_cancel_left, marks_nth h])
          unfold mkZ at hf
          simp (disch := omega) [h0, h1, h6, ht, ho, hlo, vn, wn, vi, h, hz, ints_nth, hf, wrap_small, convV, hwi, hne]
      · obtain rfl : i = 64 := by omega
        have hab : a = wide b := ext_nth (by rw [hn, wide_len]) fun j h2 => by
          rcases Nat.lt_or_ge j b.length with h3 | h3
          · rw [hj j h3, wide, nth_app_l h3]
          · have := hj2 (j - b.length) (by omega)
            rw [show b.length + (j - b.length) = j by omega] at this
            rw [this, wide, nth_app_r h3, marks_nth (by omega)]
        simp [h0, h1, h6, ht, ho, hlo, hab]
  · have hw : IntKind.i64.wrap ((b.length : Int) + 64) = (b.length : Int) + 64 := wrap_small (by omega) (by omega)
    have hn2 : ((a.length : Int) != (b.length : Int) + 64) = true := by simp only [bne_iff_ne, ne_eq]; omega
    have hne : a ≠ wide b := fun q => hn (by rw [q, wide_len])
    simp [vn, wn, hw, hn2, hne])

/-! what a law is handed -/
def b8 (l : List Int) : Bool := l.all fun c => decide (0 ≤ c) && decide (c < 256)
theorem b8_iff {l : List Int} : b8 l = true ↔ ∀ c ∈ l, 0 ≤ c ∧ c < 256 := by simp [b8]
theorem wf_u8 {l : List Int} (h : ∀ c ∈ l, (Lit.int .u8 c).wf = true) : b8 l = true := b8_iff.2 fun c hc => by
  have := h c hc
  simp [Lit.wf, IntKind.min, IntKind.max] at this
  omega

end Go.Proofs.Ytdfcbophcfjakaa.B
set_option maxRecDepth 20000
set_option maxHeartbeats 1000000
namespace Go.Proofs.Ytdfcbophcfjakaa.B
open Go Go.Ab
/-! slices of bytes, told or as objects -/
theorem bsR {objs : List AO} {v : V} {l : List Int} (h : ofIntsR .u8 objs v = some l) : ∃ P : Nat → V, demote v = v ∧ lenV Try.prog 30 v = some (.int .i64 l.length) ∧ (∀ k i, 0 ≤ i → i < (l.length : Int) → indexV Try.prog 30 v (.int k i) = some (P i.toNat)) ∧ ∀ i, i < l.length → loadV Try.prog 5 objs (P i) = some (.int .u8 (nth l i)) := by
  rcases ofIntsR_inv h with h | ⟨id, ver, off, cs, rfl, hg, hrow, -⟩
  · obtain ⟨vd, vn, vi, -⟩ := bs h
    refine ⟨fun i => .fptr (ints .u8 l) i, vd, vn, vi, fun i hi => ?_⟩
    have e := of_get (ints_nth (k := .u8) hi)
    simp [hi, e]
  · refine ⟨fun i => .ptr id ver (off + i), rfl, by simp, fun k i h0 h1 => by simp [h0, h1], fun i hi => ?_⟩
    have e := row_get hrow hi
    simp [hg, e]
noncomputable def k_SameR : Ab.Spec := con2 some some fun v w objs => match ofIntsR .u8 objs v, ofIntsR .u8 objs w with | some a, some b => bnd a.length 140737488355328 (some (.bool (decide (a = b)), none)) | _, _ => none
noncomputable def T_SameR : CallF := withF T_Intact 19 k_SameR
theorem T_SameR_ok : CallOk Try.prog T_SameR := con_of (A := annOf [] [] [] false []) fit T_Intact_ok (fn := Try.f19) (by kernel_rfl) (by kernel_rfl) (by
  intro args objs r h0
  obtain ⟨v, w, _, _, rfl, hv, hw, hR⟩ := con2_inv h0
  cases hv; cases hw
  split at hR
  case h_2 => cases hR
  rename_i a b ha hb
  obtain ⟨hl, hR⟩ := bnd_inv hR
  cases hR
  obtain ⟨pa, vd, vn, vi, vl⟩ := bsR ha
  obtain ⟨pb, wd, wn, wi, wl⟩ := bsR hb
  refine .go _ rfl rfl ?_
  by_cases hn : a.length = b.length
  · simp [vn, wn, hn]
    refine .up a.length (fun i s => s.env 0 = v ∧ s.env 1 = w ∧ s.env 5 = .int .i64 i ∧ s.toks = [] ∧ s.objs = objs ∧ s.low = objs.length ∧ ∀ j, j < i → nth a j = nth b j) (by simp) ?_
    rintro i s hi ⟨h0, h1, h5, ht, ho, hlo, hj⟩
    rcases Nat.lt_or_ge i a.length with h | h
    · by_cases he : nth a i = nth b i
      · have hf : (nth a i != nth b i) = false := by simpa using he
        have hs : ∀ j, j < i + 1 → nth a j = nth b j := fun j hj2 => by
          rcases Nat.lt_or_ge j i with h2 | h2
          · exact hj j h2
          · obtain rfl : j = i := by omega
            exact he
        simp (disch := omega) [h0, h1, h5, ht, ho, hlo, vn, wn, vi, wi, vl, wl, h, hf, wrap_small]
        exact hs
      · have hf : (nth a i != nth b i) = true := by simpa using he
        have hne : a ≠ b := fun q => he (by rw [q])
        simp (disch := omega) [h0, h1, h5, ht, ho, hlo, vn, wn, vi, wi, vl, wl, h, hf, hne]
    · have hab : a = b := ext_nth hn fun j h2 => hj j (by omega)
      have hnl : ¬ i < b.length := by omega
      simp [h0, h1, h5, ht, ho, hlo, vn, wn, hab, hnl]
  · have hf : ((a.length : Int) != (b.length : Int)) = true := by simp only [bne_iff_ne, ne_eq]; omega
    have hne : a ≠ b := fun q => hn (by rw [q])
    simp [vn, wn, hf, hne])
def spF (c : Int) : Int := Go.bits .xor .u8 c 90
noncomputable def k_TurnedR : Ab.Spec := con2 some some fun v w objs => match ofIntsR .u8 objs v, ofIntsR .u8 objs w with | some a, some b => bnd a.length 140737488355328 (some (.bool (decide (a = b.map spF)), none)) | _, _ => none
noncomputable def T_TurnedR : CallF := withF T_SameR 41 k_TurnedR
theorem T_TurnedR_ok : CallOk Try.prog T_TurnedR := con_of (A := annOf [] [] [] false []) fit T_SameR_ok (fn := Try.f41) (by kernel_rfl) (by kernel_rfl) (by
  intro args objs r h0
  obtain ⟨v, w, _, _, rfl, hv, hw, hR⟩ := con2_inv h0
  cases hv; cases hw
  split at hR
  case h_2 => cases hR
  rename_i a b ha hb
  obtain ⟨hl, hR⟩ := bnd_inv hR
  cases hR
  obtain ⟨pa, vd, vn, vi, vl⟩ := bsR ha
  obtain ⟨pb, wd, wn, wi, wl⟩ := bsR hb
  refine .go _ rfl rfl ?_
  by_cases hn : a.length = b.length
  · have hml : a.length = (b.map spF).length := by simp [hn]
    have hnm : ∀ j, j < b.length → nth (b.map spF) j = spF (nth b j) := fun j hj => by
      unfold nth; rw [List.getD_eq_getElem?_getD, List.getD_eq_getElem?_getD, List.getElem?_map, List.getElem?_eq_getElem hj]; rfl
    simp [vn, wn, hn]
    refine .up b.length (fun i s => s.env 0 = v ∧ s.env 1 = w ∧ s.env 5 = .int .i64 i ∧ s.toks = [] ∧ s.objs = objs ∧ s.low = objs.length ∧ ∀ j, j < i → nth a j = spF (nth b j)) (by simp) ?_
    rintro i s hi ⟨h0, h1, h5, ht, ho, hlo, hj⟩
    rcases Nat.lt_or_ge i b.length with h | h
    · by_cases he : nth a i = spF (nth b i)
      · have hf : (nth a i != Go.bits .xor .u8 (nth b i) 90) = false := by simpa [spF] using he
        have hs : ∀ j, j < i + 1 → nth a j = spF (nth b j) := fun j hj2 => by
          rcases Nat.lt_or_ge j i with h2 | h2
          · exact hj j h2
          · obtain rfl : j = i := by omega
            exact he
        simp (disch := omega) [h0, h1, h5, ht, ho, hlo, vn, wn, vi, wi, vl, wl, h, hf, wrap_small]
        exact hs
      · have hf : (nth a i != Go.bits .xor .u8 (nth b i) 90) = true := by simpa [spF] using he
        have hne : a ≠ b.map spF := fun q => he (by rw [q, hnm i h])
        simp (disch := omega) [h0, h1, h5, ht, ho, hlo, vn, wn, vi, wi, vl, wl, h, hf, hne]
    · have hab : a = b.map spF := ext_nth hml fun j h2 => by rw [hj j (by omega), hnm j (by omega)]
      have hnl : ¬ i < b.length := by omega
      simp [h0, h1, h5, ht, ho, hlo, vn, wn, ← hab, hnl]
  · have hf : ((a.length : Int) != (b.length : Int)) = true := by simp only [bne_iff_ne, ne_eq]; omega
    have hne : a ≠ b.map spF := fun q => hn (by rw [q]; simp)
    simp [vn, wn, hf, hne])
noncomputable def k_Spoil : Ab.Spec := con1 some fun v objs => match v with
  | .nils => some (.tup [], none)
  | .ref id ver 0 n 1 => match Ab.getObj objs id ver with
    | some cs => (ofCellsI .u8 cs).bind fun a => bnd a.length 140737488355000 (if n = a.length then some (.tup [], if n = 0 then none else some (objs.set id (.cells (ints .u8 (a.map spF)) ver), id)) else none)
    | _ => none
  | _ => none
noncomputable def T_Spoil : CallF := withF T_TurnedR 27 k_Spoil
theorem T_Spoil_ok : CallOk Try.prog T_Spoil := con_of (A := annOf [] [] [] false []) fit T_TurnedR_ok (fn := Try.f27) (by kernel_rfl) (by kernel_rfl) (by
  intro args objs r h0
  obtain ⟨v, _, rfl, hv, hR⟩ := con1_inv h0
  cases hv
  refine .go _ rfl rfl ?_
  split at hR
  · cases hR
    simp
    refine .up 0 (fun i s => s.env 0 = .nils ∧ s.env 2 = .int .i64 0 ∧ s.toks = [] ∧ s.objs = objs ∧ s.low = objs.length) (by simp) ?_
    rintro i s hi ⟨g0, g2, ht, ho, hlo⟩
    simp (disch := omega) [g0, g2, ht, ho, hlo]
  · rename_i id ver n
    split at hR
    case h_2 => cases hR
    rename_i cs hg
    obtain ⟨a, ecs, hR2⟩ := Option.bind_eq_some_iff.1 hR
    obtain rfl := ofCellsI_inv ecs
    clear hR
    obtain ⟨hl, hR⟩ := bnd_inv hR2
    split at hR
    case isFalse => cases hR
    rename_i hn
    subst hn
    cases hR
    have hid := getObj_lt hg
    simp -implicitDefEqProofs (disch := omega)
    refine .up a.length (fun i s => s.env 0 = .ref id ver 0 a.length 1 ∧ s.env 2 = .int .i64 i ∧ s.toks = [] ∧ s.objs = objs.set id (.cells (ints .u8 (mapP spF a i)) ver) ∧ s.low = if i = 0 then objs.length else id) (by simp [mapP]; exact (set_self hg).symm) ?_
    rintro i s hi ⟨g0, g2, ht, ho, hlo⟩
    have hx := mapP_len spF a i
    have hgs := getObj_set (cs := ints .u8 (mapP spF a i)) (v := ver) hid
    rcases Nat.lt_or_ge i a.length with h | h
    · have e0 := ints_nth (k := .u8) (l := mapP spF a i) (i := i) (by omega)
      have e := of_get e0
      have es := ints_set1 (k := .u8) (l := mapP spF a i) (i := i) (c := Go.bits .xor .u8 (nth (mapP spF a i) i) 90) (by omega)
      have hw : IntKind.i64.wrap ((i : Int) + 1) = (i : Int) + 1 := wrap_small (by omega) (by omega)
      have hs1 : i + 1 ≤ a.length := h
      have ex : (mapP spF a i).set i (Go.bits .xor .u8 (nth (mapP spF a i) i) 90) = mapP spF a (i + 1) := rfl
      rw [ex] at es
      have hlow : (if id < s.low then id else s.low) = id := by
        rw [hlo]
        by_cases z : i = 0
        · rw [if_pos z, if_pos hid]
        · rw [if_neg z, if_neg (by omega)]
      simp -implicitDefEqProofs (disch := omega) [g0, g2, ht, ho, hgs, e0, e, es, hx, hw, hlow, h, hs1]
    · obtain rfl : i = a.length := by omega
      have hm := mapP_all spF a
      rw [hm] at ho
      have htk : (objs.set id (AO.cells (ints .u8 (a.map spF)) ver)).take objs.length = objs.set id (AO.cells (ints .u8 (a.map spF)) ver) := List.take_of_length_le (by simp)
      by_cases z : a.length = 0
      · have hlo' : s.low = objs.length := by rw [hlo, if_pos z]
        simp -implicitDefEqProofs (disch := omega) [g0, g2, ht, ho, hlo', htk, z]
        exact List.eq_nil_of_length_eq_zero z
      · have hlo' : s.low = id := by rw [hlo, if_neg z]
        simp -implicitDefEqProofs (disch := omega) [g0, g2, ht, ho, hlo', htk, hid, z]
        exact fun q => z (by rw [q]; rfl)
  · cases hR)

end Go.Proofs.Ytdfcbophcfjakaa.B
set_option maxRecDepth 20000
set_option maxHeartbeats 1000000
namespace Go.Proofs.Ytdfcbophcfjakaa.B
open Go Go.Ab
noncomputable def k_Apart : Ab.Spec := con3 some some some fun v w u objs => match v with
  | .nils => match ofIntsR .u8 objs w, ofIntsR .u8 objs u with | some b, some c => if b = [] ∧ c = [] then some (.bool true, none) else none | _, _ => none
  | .ref id ver 0 n 1 => match Ab.getObj objs id ver with
    | some cs => (ofCellsI .u8 cs).bind fun a => bnd a.length 140737488354000 (if n = a.length ∧ ofIntsR .u8 objs w = some a ∧ ofIntsR .u8 objs u = some a ∧ ofIntsR .u8 (objs.set id (.cells (ints .u8 (a.map spF)) ver)) w = some a ∧ ofIntsR .u8 (objs.set id (.cells (ints .u8 (a.map spF)) ver)) u = some a ∧ (n = 0 ∨ clean objs.length (objs.set id (.cells (ints .u8 (a.map spF)) ver)) = true)
      then some (.bool true, if n = 0 then none else some (objs.set id (.cells (ints .u8 (a.map spF)) ver), id)) else none)
    | _ => none
  | _ => none
noncomputable def T_Apart : CallF := withF T_Spoil 29 k_Apart
theorem T_Apart_ok : CallOk Try.prog T_Apart := con_ofW (A := annOf [] [] [] false [27]) fit T_Spoil_ok (fn := Try.f29) (by kernel_rfl) (by kernel_rfl) (by
  intro args objs r h0
  have c_SameR : ∀ a o, T_Spoil 19 a o = k_SameR a o := fun _ _ => rfl
  have c_TurnedR : ∀ a o, T_Spoil 41 a o = k_TurnedR a o := fun _ _ => rfl
  have c_Spoil : ∀ a o, T_Spoil 27 a o = k_Spoil a o := fun _ _ => rfl
  obtain ⟨v, w, u, _, _, _, rfl, hv, hw, hu, hR⟩ := con3_inv h0
  cases hv; cases hw; cases hu
  refine .go _ rfl rfl ?_
  split at hR
  · split at hR
    case h_2 => cases hR
    rename_i b c hb hc
    split at hR
    case isFalse => cases hR
    rename_i e
    obtain ⟨rfl, rfl⟩ := e
    cases hR
    have hn : ofIntsR .u8 objs V.nils = some [] := rfl
    obtain ⟨pb, wd, wn, -⟩ := bsR hb
    obtain ⟨pc, ud, un, -⟩ := bsR hc
    refine .thenT ?_
    simp
    refine .thenT ?_
    simp -implicitDefEqProofs (disch := omega) [wd, ud, c_SameR, k_SameR, hn, hb, hc]
    refine .thenT ?_
    simp -implicitDefEqProofs (disch := omega) [c_Spoil, k_Spoil]
    refine .thenT ?_
    simp -implicitDefEqProofs (disch := omega)
    refine .then (.thenT ?_)
    simp -implicitDefEqProofs (disch := omega)
    refine .cut (grow_block (N := 70) (n := 0) (X := fun _ => True) (LB := [7, 30, 29, 28, 27, 26]) (by omega) (by omega) (.inl ⟨rfl, rfl⟩) rfl (fun _ _ _ _ _ _ => trivial) (fun _ _ _ _ => trivial) (body_byte u30 (by kernel_rfl) v5 u3 u5 (by omega) (by decide)) (by simp) (by decide) (by decide)) ?_
    show ToW _ _ _ _ _ _ _ _
    refine .of ?_
    simp -implicitDefEqProofs (disch := omega) [grownEnv, wd, ud, un, c_TurnedR, k_TurnedR, c_SameR, k_SameR, hn, hb, hc, wrap_small]
  · rename_i id ver n
    split at hR
    case h_2 => cases hR
    rename_i cs hg
    obtain ⟨a, ecs, hR2⟩ := Option.bind_eq_some_iff.1 hR
    obtain rfl := ofCellsI_inv ecs
    clear hR
    obtain ⟨hl, hR⟩ := bnd_inv hR2
    split at hR
    case isFalse => cases hR
    rename_i e
    obtain ⟨rfl, hb, hc, hb2, hc2, hcl⟩ := e
    have hid := getObj_lt hg
    have hn := ofIntsR_ref hg (n := a.length) rfl
    obtain ⟨pb, wd, wn, -⟩ := bsR hb
    obtain ⟨pc, ud, un, -⟩ := bsR hc
    have hl2 : a.length < 140737488355000 := by omega
    refine .thenT ?_
    simp
    refine .thenT ?_
    simp -implicitDefEqProofs (disch := omega) [wd, ud, c_SameR, k_SameR, hn, hb, hc]
    refine .thenT ?_
    by_cases hz : a.length = 0
    · rw [if_pos hz] at hR
      cases hR
      obtain rfl := List.eq_nil_of_length_eq_zero hz
      simp -implicitDefEqProofs (disch := omega) [c_Spoil, k_Spoil, hg, ofCellsI_ints]
      refine .thenT ?_
      simp -implicitDefEqProofs (disch := omega)
      refine .then (.thenT ?_)
      simp -implicitDefEqProofs (disch := omega)
      refine .cut (grow_block (N := 70) (n := 0) (X := fun _ => True) (LB := [7, 30, 29, 28, 27, 26]) (by omega) (by omega) (.inr ⟨id, ver, _, rfl, hg, by simp⟩) rfl (fun _ _ _ _ _ _ => trivial) (fun _ _ _ _ => trivial) (body_byte u30 (by kernel_rfl) v5 u3 u5 (by omega) (by decide)) (by simp) (by decide) (by decide)) ?_
      show ToW _ _ _ _ _ _ _ _
      refine .of ?_
      simp at hn
      simp -implicitDefEqProofs (disch := omega) [grownEnv, wd, ud, un, c_TurnedR, k_TurnedR, c_SameR, k_SameR, hn, hb, hc, wrap_small]
    · rw [if_neg hz] at hR
      cases hR
      have hcl := hcl.resolve_left hz
      have hgs := getObj_set (cs := ints .u8 (a.map spF)) (v := ver) hid
      have hn2 := ofIntsR_ref hgs (n := a.length) (by simp)
      simp -implicitDefEqProofs (disch := omega) [c_Spoil, k_Spoil, hg, ofCellsI_ints, hl2, hz, hcl, hid]
      refine .thenT ?_
      simp -implicitDefEqProofs (disch := omega)
      refine .then (.thenT ?_)
      simp -implicitDefEqProofs (disch := omega)
      refine .cut (grow_block (N := 70) (n := a.length) (X := fun _ => True) (LB := [7, 30, 29, 28, 27, 26]) (by omega) (by omega) (.inr ⟨id, ver, _, rfl, hgs, by simp⟩) rfl (fun _ _ _ _ _ _ => trivial) (fun _ _ _ _ => trivial) (body_byte u30 (by kernel_rfl) v5 u3 u5 (by omega) (by decide)) (by simp) (by decide) (by decide)) ?_
      show ToW _ _ _ _ _ _ _ _
      refine .of ?_
      have htk : (objs.set id (AO.cells (ints .u8 (a.map spF)) ver)).take objs.length = objs.set id (AO.cells (ints .u8 (a.map spF)) ver) := List.take_of_length_le (by simp)
      simp -implicitDefEqProofs (disch := omega) [grownEnv, wd, ud, un, c_TurnedR, k_TurnedR, c_SameR, k_SameR, hn2, hb2, hc2, hl, htk, hid, wrap_small]
  · cases hR)
theorem apart_two {a : List Int} {n : Nat} {u : V} (hn : n = a.length) (h0 : 0 < n) (hl : n < 140737488354000) (hu : ofInts .u8 u = some a) :
    k_Apart [.ref 0 0 0 n 1, .ref 1 0 0 n 1, u] [.cells (ints .u8 a) 0, .cells (ints .u8 a) 0] = some (.bool true, some ([.cells (ints .u8 (a.map spF)) 0, .cells (ints .u8 a) 0], 0)) := by
  subst hn
  have h1 : ofIntsR .u8 [.cells (ints .u8 a) 0, .cells (ints .u8 a) 0] (.ref 1 0 0 a.length 1) = some a := ofIntsR_ref rfl rfl
  have h2 : ofIntsR .u8 [.cells (ints .u8 (a.map spF)) 0, .cells (ints .u8 a) 0] (.ref 1 0 0 a.length 1) = some a := ofIntsR_ref rfl rfl
  have h3 : clean 2 [.cells (ints .u8 (a.map spF)) 0, .cells (ints .u8 a) 0] = true := by simp [clean]
  have hz : ¬ a.length = 0 := by omega
  have hz2 : ¬ a = [] := fun q => hz (by rw [q]; rfl)
  simp [k_Apart, con3, Ab.getObj, ofCellsI_ints, hl, h1, h2, h3, ofIntsR_of hu, hz2, bnd_pos]
theorem apart_nil {u : V} (hu : ofInts .u8 u = some []) : k_Apart [.nils, .nils, u] [] = some (.bool true, none) := by
  have h1 : ofIntsR .u8 [] V.nils = some [] := rfl
  simp [k_Apart, con3, h1, ofIntsR_of hu]
theorem apart_one {a : List Int} {cs : List V} {ver n : Nat} {u : V} (hcs : norefs 3 cs = true) (hn : n = a.length) (h0 : 0 < n) (hl : n < 140737488354000) (hu : ofInts .u8 u = some a) :
    k_Apart [.ref 1 0 0 n 1, .ref 2 0 0 n 1, u] [.cells cs ver, .cells (ints .u8 a) 0, .cells (ints .u8 a) 0] = some (.bool true, some ([.cells cs ver, .cells (ints .u8 (a.map spF)) 0, .cells (ints .u8 a) 0], 1)) := by
  subst hn
  have h1 : ofIntsR .u8 [.cells cs ver, .cells (ints .u8 a) 0, .cells (ints .u8 a) 0] (.ref 2 0 0 a.length 1) = some a := ofIntsR_ref rfl rfl
  have h2 : ofIntsR .u8 [.cells cs ver, .cells (ints .u8 (a.map spF)) 0, .cells (ints .u8 a) 0] (.ref 2 0 0 a.length 1) = some a := ofIntsR_ref rfl rfl
  have h3 : clean 3 [.cells cs ver, .cells (ints .u8 (a.map spF)) 0, .cells (ints .u8 a) 0] = true := by simp [clean, hcs]
  have hz : ¬ a.length = 0 := by omega
  have hz2 : ¬ a = [] := fun q => hz (by rw [q]; rfl)
  simp [k_Apart, con3, Ab.getObj, ofCellsI_ints, hl, h1, h2, h3, ofIntsR_of hu, hz2, bnd_pos]

theorem rowH_spoil {objs : List AO} {v : V} {l : List Int} (h : rowH objs v l) (hl : l.length < 140737488355000) : ∃ r, k_Spoil [v] objs = some (.tup [], r) ∧ ((r = none ∧ l = []) ∨ ∃ id ver, v = .ref id ver 0 l.length 1 ∧ 0 < l.length ∧ r = some (objs.set id (.cells (ints .u8 (l.map spF)) ver), id)) := by
  rcases h with ⟨rfl, rfl⟩ | ⟨id, ver, rfl, hg⟩
  · exact ⟨none, by simp [k_Spoil], .inl ⟨rfl, rfl⟩⟩
  · by_cases hz : l.length = 0
    · obtain rfl := List.eq_nil_of_length_eq_zero hz
      exact ⟨none, by simp [k_Spoil, hg, ofCellsI_ints, bnd_pos], .inl ⟨rfl, rfl⟩⟩
    · have hz2 : ¬ l = [] := fun q => hz (by rw [q]; rfl)
      exact ⟨_, by simp [k_Spoil, hg, ofCellsI_ints, bnd_pos, hl, hz2], .inr ⟨id, ver, rfl, by omega, rfl⟩⟩
def lens (ls : List (List Int)) : Nat := (ls.map fun l => l.length + 70).sum
theorem lens_take {ls : List (List Int)} : ∀ {i : Nat}, i < ls.length → lens (ls.take (i + 1)) = lens (ls.take i) + ((nth ls i).length + 70) := by
  intro i hi
  unfold lens
  rw [take_nth hi, List.map_append, List.sum_append]; simp
theorem lens_le {ls : List (List Int)} (i : Nat) : lens (ls.take i) ≤ lens ls := by
  unfold lens
  have e : ls.map (fun l => l.length + 70) = (ls.take i).map (fun l => l.length + 70) ++ (ls.drop i).map (fun l => l.length + 70) := by rw [← List.map_append, List.take_append_drop]
  rw [e, List.sum_append]; omega
theorem lens_mem {ls : List (List Int)} {i : Nat} (h : i < ls.length) : (nth ls i).length + 70 ≤ lens ls := by
  have h1 := lens_take h
  have h2 := lens_le (ls := ls) (i + 1)
  omega
theorem lens_count {ls : List (List Int)} : ls.length * 70 ≤ lens ls := by
  unfold lens
  induction ls with
  | nil => simp
  | cons a l ih => simp only [List.map_cons, List.sum_cons, List.length_cons]; omega
def p_ApartAll : List V → List AO → Rs → Prop := fun args objs r => match args with | [v, _] => ∃ objs' low', r = (.bool true, some (objs', low')) ∧ ∀ vs ls, Sl v vs ls.length → Held objs vs ls → Spoiled spF objs vs ls objs' | _ => False
noncomputable def k_ApartAll : Ab.Spec := relF (fun a o r => p_ApartAll a o r ∧ EndsW Try.prog (annOf [] [] [] true [27]) T_Apart 31 Try.f31 a o r)
noncomputable def T_ApartAll : CallF := withF T_Apart 31 k_ApartAll
theorem T_ApartAll_ok : CallOk Try.prog T_ApartAll := con_ofW (A := annOf [] [] [] true [27]) fit T_Apart_ok (fn := Try.f31) (by kernel_rfl) (by kernel_rfl) (fun args objs r h0 => (relF_inv h0).2)
theorem s_ApartAll  {objs : List AO} {v w : V} {vs ws : List V} {ls : List (List Int)} (hv : Sl v vs ls.length) (hw : Sl w ws ls.length) (hws : ∀ i, i < ls.length → ∃ c, ws[i]? = some c ∧ ofInts .u8 c = some (nth ls i)) (hH : Held objs vs ls) (hsum : lens ls < 140737488354000) : ∃ r, k_ApartAll [v, w] objs = some r ∧ p_ApartAll [v, w] objs r := by
  have c_SameR : ∀ a o, T_Apart 19 a o = k_SameR a o := fun _ _ => rfl
  have c_TurnedR : ∀ a o, T_Apart 41 a o = k_TurnedR a o := fun _ _ => rfl
  have c_Spoil : ∀ a o, T_Apart 27 a o = k_Spoil a o := fun _ _ => rfl
  refine rel_go _ rfl rfl ?_
  have vd := hv.dem
  have wd := hw.dem
  have vn := hv.size u27
  have wn := hw.size u27
  have vi := hv.idx u27 z30
  have wi := hw.idx u27 z30
  have hcn := lens_count (ls := ls)
  have row : ∀ i, i < ls.length → ∃ a c, vs[i]? = some a ∧ (∀ h : i < vs.length, vs[i]'h = a) ∧ rowH objs a (nth ls i) ∧ ws[i]? = some c ∧ (∀ h : i < ws.length, ws[i]'h = c) ∧ ofInts .u8 c = some (nth ls i) ∧ demote a = a ∧ demote c = c := by
    intro i hi
    obtain ⟨a, a1, a2⟩ := hH.row i hi
    obtain ⟨c, c1, c2⟩ := hws i hi
    exact ⟨a, c, a1, of_get a1, a2, c1, of_get c1, c2, a2.one.1, (bs c2).1⟩
  refine .thenT ?_
  simp
  refine .thenT ?_
  simp -implicitDefEqProofs (disch := omega) [vn, wn]
  refine .then (.thenT ?_)
  simp -implicitDefEqProofs (disch := omega)
  refine .of ?_
  simp -implicitDefEqProofs
  refine .up ls.length (fun i s => s.env 0 = v ∧ s.env 1 = w ∧ s.env 5 = .int .i64 i ∧ s.toks = [] ∧ s.objs = objs ∧ s.low = objs.length) (by simp) ?_
  rintro i s hi ⟨h0, h1, h5, ht, ho, hlo⟩
  rcases Nat.lt_or_ge i ls.length with h | h
  · obtain ⟨a, c, a1, a1', a2, c1, c1', c2, ad, cd⟩ := row i h
    have ea := a2.bytes
    have ec := ofIntsR_of (objs := objs) c2
    have hl := lens_mem h
    have e1 := vi .i64 i (by omega) (by omega)
    have e2 := wi .i64 i (by omega) (by omega)
    rw [Int.toNat_natCast, Nat.mul_one] at e1 e2
    simp -implicitDefEqProofs (disch := omega) [h0, h1, h5, ht, ho, hlo, vn, wn, e1, e2, h, a1, a1', c1, c1', ad, cd, c_SameR, k_SameR, ea, ec, wrap_small]
  obtain rfl : i = ls.length := by omega
  simp -implicitDefEqProofs (disch := omega) [h0, h1, h5, ht, ho, hlo, vn, wn]
  refine .then (.thenT ?_)
  simp -implicitDefEqProofs (disch := omega)
  refine .of ?_
  simp -implicitDefEqProofs
  refine .up ls.length (fun i s => s.env 0 = v ∧ s.env 1 = w ∧ s.env 6 = .int .i64 i ∧ s.toks = [] ∧ s.objs.length = objs.length ∧ Held s.objs vs (spoilUp spF ls i) ∧ ∀ id ver, (∀ v, v ∈ vs → idOf v ≠ some id) → Ab.getObj s.objs id ver = Ab.getObj objs id ver) (by simp [h0, h1, ht, ho, spoilUp_zero, hH]) ?_
  rintro i s hi ⟨h0, h1, h6, ht, hlen, hHi, hoth⟩
  rcases Nat.lt_or_ge i ls.length with h | h
  · obtain ⟨a, a1, a2⟩ := hHi.row i (by rw [spoilUp_len (by omega)]; exact h)
    rw [spoilUp_ge (Nat.le_refl i) (by omega)] at a2
    have a1' := of_get a1
    have ad := a2.one.1
    have hl := lens_mem h
    have e1 := vi .i64 i (by omega) (by omega)
    rw [Int.toNat_natCast, Nat.mul_one] at e1
    obtain ⟨r, k1, k2⟩ := rowH_spoil a2 (by omega)
    rcases k2 with ⟨rfl, k3⟩ | ⟨id, ver, rfl, hpos, rfl⟩
    · have hH2 := hHi.spoil_nil h k3
      simp -implicitDefEqProofs (disch := omega) [h0, h1, h6, ht, vn, e1, h, a1, a1', ad, c_Spoil, k1, wrap_small, hlen, hH2]
      exact fun id ver hx => hoth id ver hx
    · have hH2 := hHi.spoil h a1
      have hnl : ¬ ((if id < s.low then id else s.low) < 0) := by omega
      simp -implicitDefEqProofs (disch := omega) [h0, h1, h6, ht, vn, e1, h, a1, a1', ad, c_Spoil, k1, wrap_small, hlen, hH2]
      intro id' ver' hx
      rw [getObj_set_ne (fun q => ?_)]
      · exact hoth id' ver' hx
      · exact hx _ (List.mem_of_getElem? a1) (by rw [← q]; rfl)
  obtain rfl : i = ls.length := by omega
  rw [spoilUp_all] at hHi
  obtain ⟨objs2, ho⟩ : ∃ o, o = s.objs := ⟨_, rfl⟩
  rw [← ho] at hlen hHi hoth
  have ho := ho.symm
  simp -implicitDefEqProofs (disch := omega) [h0, h1, h6, ht, ho, vn, wn]
  refine .thenT ?_
  simp -implicitDefEqProofs
  refine .then (.thenT ?_)
  simp -implicitDefEqProofs
  refine .block (.up ls.length (fun i s => s.env 0 = v ∧ s.env 1 = w ∧ s.env 7 = .int .i64 (lens (ls.take i)) ∧ s.env 8 = .int .i64 i ∧ s.toks = [] ∧ s.objs = objs2) (by simp [h0, h1, ht, ho, lens]) ?_)
  rintro i s hi ⟨h0, h1, h7, h8, ht, ho⟩
  rcases Nat.lt_or_ge i ls.length with h | h
  · obtain ⟨a, a1, a2⟩ := hHi.row i (by simpa using h)
    have hnm : nth (ls.map fun l => l.map spF) i = (nth ls i).map spF := nth_map h
    rw [hnm] at a2
    have a1' := of_get a1
    have ad := a2.one.1
    have hl := lens_mem h
    have hlt := lens_take h
    have hle := lens_le (ls := ls) (i + 1)
    have e1 := vi .i64 i (by omega) (by omega)
    rw [Int.toNat_natCast, Nat.mul_one] at e1
    refine .thenT ?_
    simp -implicitDefEqProofs (disch := omega) [h0, h1, h7, h8, ht, ho, vn, h]
    refine .then (.block (.thenT ?_))
    simp -implicitDefEqProofs (disch := omega) [h0, h1, h7, h8, ht, ho, e1, a1, a1', ad]
    refine .then (.thenT ?_)
    simp -implicitDefEqProofs (disch := omega) [h0, h1, h7, h8, ht, ho]
    have hbase : Base objs2 a (nth ls i).length := by
      rcases a2 with ⟨q1, q2⟩ | ⟨id, ver, q1, q2⟩
      · exact .inl ⟨q1, by have := congrArg List.length q2; simpa using this⟩
      · exact .inr ⟨id, ver, _, by rw [q1, List.length_map], q2, by simp⟩
    refine .cut (grow_block (N := 70) (n := (nth ls i).length) (X := fun a => ∃ m, a.eval (.tmp 8) = .int .i64 m) (LB := [9, 64, 63, 62, 61, 60, 59, 58]) (by omega) (by omega) (by simpa [put_get] using hbase) rfl (fun G tl E w a hE => ?_) (fun a a' hk ⟨m, hm⟩ => ⟨m, by rw [hk.2.2 8 (by decide)]; exact hm⟩) (body_byte2 u30 (by kernel_rfl) v5 u3 u5 (by omega) (by decide) (by decide)) (by simp) (by decide) (by decide)) ?_
    · have q := (hE 8).1
      simp [put_get, h8] at q
      exact ⟨i, by simpa [Act.eval] using q.int_inv⟩
    show ToW _ _ _ _ _ _ _ _
    refine .of ?_
    simp -implicitDefEqProofs (disch := omega) [grownEnv, h0, h1, h7, h8, ht, ho]
    refine .of ?_
    simp -implicitDefEqProofs (disch := omega) [grownEnv, h0, h1, h7, h8, ht, ho, h, wrap_small]
    omega
  obtain rfl : i = ls.length := by omega
  rw [List.take_length] at h7
  refine .thenT ?_
  simp -implicitDefEqProofs (disch := omega) [h0, h1, h7, h8, ht, ho, vn]
  refine .then (.thenT ?_)
  simp -implicitDefEqProofs (disch := omega) [h0, h1, h7, h8, ht, ho]
  refine .of ?_
  simp -implicitDefEqProofs
  refine .up ls.length (fun i s => s.env 0 = v ∧ s.env 1 = w ∧ s.env 7 = .int .i64 (lens ls) ∧ s.env 11 = .int .i64 i ∧ s.toks = [] ∧ s.objs = objs2) (by simp [h0, h1, h7, ht, ho]) ?_
  rintro i s hi ⟨h0, h1, h7, h11, ht, ho⟩
  rcases Nat.lt_or_ge i ls.length with h | h
  · obtain ⟨a, a1, a2⟩ := hHi.row i (by simpa using h)
    obtain ⟨_, c, _, _, _, c1, c1', c2, _, cd⟩ := row i h
    have hnm : nth (ls.map fun l => l.map spF) i = (nth ls i).map spF := nth_map h
    rw [hnm] at a2
    have a1' := of_get a1
    have ad := a2.one.1
    have ea := a2.bytes
    have ec := ofIntsR_of (objs := objs2) c2
    have hl := lens_mem h
    have e1 := vi .i64 i (by omega) (by omega)
    have e2 := wi .i64 i (by omega) (by omega)
    rw [Int.toNat_natCast, Nat.mul_one] at e1 e2
    simp -implicitDefEqProofs (disch := omega) [h0, h1, h7, h11, ht, ho, vn, wn, e1, e2, h, a1, a1', c1, c1', ad, cd, c_TurnedR, k_TurnedR, ea, ec, wrap_small]
  obtain rfl : i = ls.length := by omega
  have hge : ((lens ls : Nat) : Int) ≥ 0 := by omega
  simp -implicitDefEqProofs (disch := omega) [h0, h1, h7, h11, ht, ho, vn, wn]
  refine .of ?_
  simp -implicitDefEqProofs (disch := omega) [h0, h1, h7, h11, ht, ho, hge]
  refine ⟨objs2, _, rfl, fun vs' ls' h1 h2 => ?_⟩
  obtain ⟨rfl, -⟩ := hv.inj h1
  obtain rfl := hH.inj h2
  exact ⟨hlen, hHi, hoth⟩

end Go.Proofs.Ytdfcbophcfjakaa.B
set_option maxRecDepth 20000
set_option maxHeartbeats 1000000
namespace Go.Proofs.Ytdfcbophcfjakaa.B
open Go Go.Ab
def cmpB (a b : List Int) : Int := Lib.compareBytes (Lib.bytesOf a) (Lib.bytesOf b)
noncomputable def k_bCompare : Ab.Spec := con2 some some fun v w objs => match ofIntsR .u8 objs v, ofIntsR .u8 objs w with | some a, some b => some (.int .i64 (cmpB a b), none) | _, _ => none
noncomputable def T_bCompare : CallF := withF T_ApartAll 42 k_bCompare
theorem T_bCompare_ok : CallOk Try.prog T_bCompare := con_ext Extern.BytealgCompare.compare T_ApartAll_ok (fn := Try.f42) (by kernel_rfl) (by kernel_rfl) rfl (by kernel_rfl) (by kernel_rfl) (by
  intro args objs r h0
  obtain ⟨v, w, _, _, rfl, hv, hw, hR⟩ := con2_inv h0
  cases hv; cases hw
  split at hR
  case h_2 => cases hR
  rename_i a b ha hb
  cases hR
  refine ⟨rfl, rfl, fun G w1 cargs hs hA => ?_⟩
  obtain ⟨x, y, hxy⟩ : ∃ x y, cargs = #[x, y] := by
    have hl := hA.len
    match cargs, hl with
    | ⟨[x, y]⟩, _ => exact ⟨x, y, rfl⟩
  subst hxy
  obtain ⟨⟨vx, -⟩, ⟨vy, -⟩, -⟩ := hA
  have h1 := read_bytes (P := Try.prog) hs vx ha
  have h2 := read_bytes (P := Try.prog) hs vy hb
  refine ⟨.int .i64 (cmpB a b), ?_, .int⟩
  show Sem.run Try.prog (do pure (goInt (Extern.BytealgCompare.cmp (← Extern.Bytes.bytesOf x) (← Extern.Bytes.bytesOf y)))) w1 = _
  simp only [Sem.run_bind, h1, h2, Sem.run_pure, Result.andThen]
  rw [Lib.cmp_eq]
  rfl)
noncomputable def k_Compare : Ab.Spec := con2 some some fun v w objs => match ofIntsR .u8 objs v, ofIntsR .u8 objs w with | some a, some b => some (.int .i64 (cmpB a b), none) | _, _ => none
noncomputable def T_Compare : CallF := withF T_bCompare 32 k_Compare
theorem T_Compare_ok : CallOk Try.prog T_Compare := con_of (A := annOf [] [] [] false []) fit T_bCompare_ok (fn := Try.f32) (by kernel_rfl) (by kernel_rfl) (by
  intro args objs r h0
  have c_bCompare : ∀ a o, T_bCompare 42 a o = k_bCompare a o := fun _ _ => rfl
  obtain ⟨v, w, _, _, rfl, hv, hw, hR⟩ := con2_inv h0
  cases hv; cases hw
  split at hR
  case h_2 => cases hR
  rename_i a b ha hb
  cases hR
  obtain ⟨_, vd, -⟩ := bsR ha
  obtain ⟨_, wd, -⟩ := bsR hb
  refine .go _ rfl rfl ?_
  simp -implicitDefEqProofs [vd, wd, c_bCompare, k_bCompare, ha, hb])
/-! order of bytes, plain -/
def cmpZ : List Int → List Int → Int
  | [], [] => 0
  | [], _ :: _ => -1
  | _ :: _, [] => 1
  | a :: p, b :: q => if a < b then -1 else if b < a then 1 else cmpZ p q
theorem cmpB_eq : ∀ {a b : List Int}, (∀ c ∈ a, 0 ≤ c ∧ c < 256) → (∀ c ∈ b, 0 ≤ c ∧ c < 256) → cmpB a b = cmpZ a b
  | [], [], _, _ => rfl
  | [], _ :: _, _, _ => rfl
  | _ :: _, [], _, _ => rfl
  | a :: p, b :: q, ha, hb => by
    have h1 := ha a (by simp)
    have h2 := hb b (by simp)
    have ih := cmpB_eq (a := p) (b := q) (fun c hc => ha c (by simp [hc])) (fun c hc => hb c (by simp [hc]))
    have lt : ∀ x y : Int, 0 ≤ x ∧ x < 256 → 0 ≤ y ∧ y < 256 → (UInt8.ofNat x.toNat < UInt8.ofNat y.toNat ↔ x < y) := fun x y hx hy => by
      rw [UInt8.lt_iff_toNat_lt, UInt8.toNat_ofNat', UInt8.toNat_ofNat', Nat.mod_eq_of_lt (by omega), Nat.mod_eq_of_lt (by omega)]
      omega
    show (if UInt8.ofNat a.toNat < UInt8.ofNat b.toNat then (-1 : Int) else if UInt8.ofNat b.toNat < UInt8.ofNat a.toNat then 1 else Lib.compareBytes (Lib.bytesOf p) (Lib.bytesOf q)) = if a < b then -1 else if b < a then 1 else cmpZ p q
    simp only [lt a b h1 h2, lt b a h2 h1]
    rw [show Lib.compareBytes (Lib.bytesOf p) (Lib.bytesOf q) = cmpB p q from rfl, ih]

def isNils : V → Bool | .nils => true | _ => false
theorem srcR {objs : List AO} {v : V} {l : List Int} (h : ofIntsR .u8 objs v = some l) (e : TypeId) : srcOf (.slice e) objs 1 v = some (ints .u8 l) := by
  rcases ofIntsR_inv h with h | ⟨id, ver, off, cs, rfl, hg, hrow, hfit⟩
  · obtain ⟨-, -, -, va, -⟩ := bs h
    exact va objs e
  · simp [srcOf, rowOf, hg, hrow, hfit]
theorem cutR {objs : List AO} {v : V} {l : List Int} (h : ofIntsR .u8 objs v = some l) (lo hi mx : Option V) (a b : Nat) (ha : boundV lo 0 = some a) (hb : boundV hi l.length = some b) (hab : a ≤ b) (hl : b ≤ l.length) (hm : mx = none ∨ hi.isSome = true ∧ boundV mx 0 = some b) :
    ∃ w, (∀ O, cutV Try.prog 30 O v lo hi mx = some w) ∧ ofIntsR .u8 objs w = some ((l.take b).drop a) ∧ isNils w = isNils v ∧ demote w = w ∧ ntup w = some w := by
  have hmx : mx.isNone = true ∨ hi.isSome = true ∧ boundV mx 0 = some b := hm.imp (fun q => by rw [q]; rfl) id
  rcases ofIntsR_inv h with h | ⟨id, ver, off, cs, rfl, hg, hrow, hfit⟩
  · rcases ofInts_inv h with rfl | ⟨rfl, h1, h2⟩
    · refine ⟨.lst .frozen (ints .u8 ((l.take b).drop a)) (b - a), fun O => ?_, ?_, rfl, rfl, rfl⟩
      · simp [-boundV, cutV, sliceV, ha, hb, hab, hl, hmx, ints_take, ints_drop]
        exact fun q => hm.resolve_left q
      · exact ofIntsR_of (ofInts_lst (by simp; omega))
    · have hl0 : l = [] := List.eq_nil_of_length_eq_zero h2
      subst hl0
      obtain rfl : b = 0 := by simpa using hl
      obtain rfl : a = 0 := by omega
      refine ⟨.nils, fun O => ?_, by simp [ofIntsR, ofInts], rfl, rfl, rfl⟩
      have hb0 : boundV hi 0 = some 0 := hb
      simp [-boundV, cutV, sliceV, ha, hb0, hmx]
      exact fun q => hm.resolve_left q
  · refine ⟨.ref id ver (off + a) (b - a) 1, fun O => ?_, ?_, rfl, rfl, rfl⟩
    · simp [-boundV, cutV, sliceV, ha, hb, hab, hl, hmx]
      exact fun q => hm.resolve_left q
    · have e : (cs.drop (off + a)).take (b - a) = ints .u8 ((l.take b).drop a) := by
        rw [← ints_drop, ← ints_take, ← hrow, List.take_take, Nat.min_eq_left hl, List.drop_take, List.drop_drop]
      simp only [ofIntsR, hg, e, ofCellsI_ints, Option.bind_some]
      rw [if_pos ⟨by simp; omega, by omega⟩]
theorem ofIntsR_app {objs m : List AO} {v : V} {l : List Int} (h : ofIntsR .u8 objs v = some l) : ofIntsR .u8 (objs ++ m) v = some l := by
  rcases ofIntsR_inv h with h | ⟨id, ver, off, cs, rfl, hg, hrow, hfit⟩
  · exact ofIntsR_of h
  · have hg2 := getObj_app (m := m) (v := ver) (getObj_lt hg)
    rw [hg] at hg2
    simp only [ofIntsR, hg2, hrow, ofCellsI_ints, Option.bind_some]
    rw [if_pos ⟨trivial, hfit⟩]
noncomputable def k_CloneR : Ab.Spec := con1 some fun v objs => match ofIntsR .u8 objs v with | some l => bnd l.length 140737488355300 (some (if isNils v = true then .nils else .lst (.fresh 1 true) (ints .u8 l) l.length, none)) | none => none
noncomputable def T_CloneR : CallF := withF T_Compare 33 k_CloneR
theorem T_CloneR_ok : CallOk Try.prog T_CloneR := con_of (A := annOf [] [5,7] [] false []) fit T_Compare_ok (fn := Try.f33) (by kernel_rfl) (by kernel_rfl) (by
  intro args objs r h0
  obtain ⟨v, _, rfl, hv, hR⟩ := con1_inv h0
  cases hv
  split at hR
  case h_2 => cases hR
  rename_i l ha
  obtain ⟨hl, hR⟩ := bnd_inv hR
  cases hR
  obtain ⟨_, vd, vn, -⟩ := bsR ha
  have hsrc := fun m => srcR (objs := objs ++ [.cells [] m]) (v := v) (l := l)
  refine .go _ rfl rfl ?_
  rcases ofIntsR_inv ha with h | ⟨id, ver, off, cs, rfl, hg, hrow, hfit⟩
  · rcases ofInts_inv h with rfl | ⟨rfl, h1, h2⟩
    · simp (disch := omega) [nilFit, nilEq, blit0, Nat.mod_one, isNils]
    · simp [nilFit, nilEq, isNils]
  · have hid := getObj_lt hg
    have hg2 := getObj_app (m := [.cells [] 0]) (v := ver) hid
    rw [hg] at hg2
    simp (disch := omega) [nilFit, nilEq, blit0, Nat.mod_one, isNils, hg2, hrow, hfit])

/-! bytes.Equal -/
theorem u8s_ints (l : List Int) : u8s (ints .u8 l) = some l := by
  induction l with
  | nil => rfl
  | cons c l ih => show (u8s (ints .u8 l)).map (c :: ·) = _; rw [ih]; rfl
theorem conv_told {v : V} {l : List Int} (h : ofInts .u8 v = some l) : convV Try.prog 30 9 v = some (.str (strOfNums l)) := by
  rcases ofInts_inv h with rfl | ⟨rfl, h1, h2⟩
  · simp [convV, u8s_ints]
  · have : l = [] := List.eq_nil_of_length_eq_zero h2
    subst this
    simp [convV]; rfl
noncomputable def k_Equal : Ab.Spec := con2 (ofInts .u8) (ofInts .u8) fun a b _ => if b8 a = true ∧ b8 b = true then some (.bool (decide (a = b)), none) else none
noncomputable def T_Equal : CallF := withF T_CloneR 43 k_Equal
theorem T_Equal_ok : CallOk Try.prog T_Equal := con_of (A := annOf [] [] [] false []) fit T_CloneR_ok (fn := Try.f43) (by kernel_rfl) (by kernel_rfl) (by
  intro args objs r h0
  obtain ⟨v, w, a, b, rfl, ha, hb, hR⟩ := con2_inv h0
  split at hR
  case isFalse => cases hR
  rename_i h8
  cases hR
  obtain ⟨vd, -⟩ := bs ha
  obtain ⟨wd, -⟩ := bs hb
  have c1 := conv_told ha
  have c2 := conv_told hb
  have e : ((strOfNums a).toList == (strOfNums b).toList) = decide (a = b) := by
    rw [str_beq, strL_nums (b8_iff.1 h8.1), strL_nums (b8_iff.1 h8.2)]
  refine .go _ rfl rfl ?_
  simp [vd, wd, c1, c2, e])
noncomputable def k_EqualH : Ab.Spec := heldF k_Equal
noncomputable def T_EqualH : CallF := withF T_Equal 43 k_EqualH
theorem T_EqualH_ok : CallOk Try.prog T_EqualH := con_held T_Equal_ok (fun _ _ => rfl)
theorem equalR {objs : List AO} {v w : V} {a b : List Int} (hv : ofIntsR .u8 objs v = some a) (hw : ofIntsR .u8 objs w = some b) (h1 : b8 a = true) (h2 : b8 b = true) : k_EqualH [v, w] objs = some (.bool (decide (a = b)), none) := by
  obtain ⟨p1, p2⟩ := told_R hv
  obtain ⟨q1, q2⟩ := told_R hw
  refine heldF_of (args' := [toldV objs v, toldV objs w]) rfl ?_ (by simp [norefs, p2, q2]) rfl
  simp [k_Equal, p1, q1, h1, h2]

end Go.Proofs.Ytdfcbophcfjakaa.B
set_option maxRecDepth 20000
set_option maxHeartbeats 1000000
namespace Go.Proofs.Ytdfcbophcfjakaa.B
open Go Go.Ab
def shortT (ss : List (List Int)) : Bool := ss.all fun s => decide (s.length < 140737488355000)
theorem shortT_iff {ss : List (List Int)} : shortT ss = true ↔ ∀ s ∈ ss, s.length < 140737488355000 := by simp [shortT]
theorem nth_of_mem {α : Type} [Inhabited α] {l : List α} {a : α} (h : a ∈ l) : ∃ j, j < l.length ∧ nth l j = a := by
  obtain ⟨j, hj, rfl⟩ := List.getElem_of_mem h
  exact ⟨j, hj, nth_lt hj⟩
theorem tx {v : V} {ss : List (List Int)} (h : ofList (ofInts .u8) v = some ss) : demote v = v ∧ lenV Try.prog 27 v = some (.int .i64 ss.length) ∧ ∃ cs, (∀ k i, 0 ≤ i → i < (ss.length : Int) → indexV Try.prog 27 v (.int k i) = some (.fptr cs i.toNat)) ∧ ∀ i, i < ss.length → ∃ c, cs[i]? = some c ∧ (∀ hh : i < cs.length, cs[i]'hh = c) ∧ ofInts .u8 c = some (nth ss i) := by
  obtain ⟨cs, hv, hn, hc⟩ := ofList_inv h
  refine ⟨hv.dem, hv.size u27, cs, fun k i h0 h1 => ?_, fun i hi => ?_⟩
  · have := hv.idx u27 z30 k i h0 h1
    rwa [Nat.mul_one] at this
  · obtain ⟨c, h1, h2, h3⟩ := hc i hi
    exact ⟨c, h1, h2, h3⟩
theorem bytesV {k : IntKind} {objs : List AO} {v : V} {l : List Int} (h : ofIntsR k objs v = some l) : RowV objs 1 v (ints k l) l.length := by
  refine ⟨by simp, ?_⟩
  rcases ofIntsR_inv h with h | ⟨id, ver, off, cs, rfl, hg, hrow, hfit⟩
  · exact .inl (ofInts_inv h)
  · exact .inr ⟨id, ver, off, cs, rfl, hg, by rw [Nat.mul_one]; exact hrow, by omega⟩
theorem bytesF {objs : List AO} {v : V} {l : List Int} (h : ofIntsR .u8 objs v = some l) : RowV objs 1 v (ints .u8 l) l.length ∧ demote v = v ∧ lenV Try.prog 30 v = some (.int .i64 l.length) ∧ ∀ i : Nat, i < l.length → indexV Try.prog 30 v (.int .i64 i) = some (ptAt v (ints .u8 l) i) := by
  have hv := bytesV h
  refine ⟨hv, hv.dem, hv.size (P := Try.prog) u30, fun i hi => ?_⟩
  have := hv.idx (P := Try.prog) u30 z5 .i64 i (by omega) (by omega)
  rwa [Int.toNat_natCast, Nat.mul_one] at this
theorem byte_at {objs : List AO} {v : V} {l : List Int} (h : RowV objs 1 v (ints .u8 l) l.length) {i : Nat} (hi : i < l.length) : loadV Try.prog 5 objs (ptAt v (ints .u8 l) i) = some (.int .u8 (nth l i)) := h.get g5 (ints_nth hi)
theorem drop_nth {b : List Int} {j : Nat} (h : j < b.length) : b.drop j = nth b j :: b.drop (j + 1) := by rw [nth_lt h]; exact List.drop_eq_getElem_cons h

/-! orders -/
theorem cmpZ_self : ∀ (a : List Int), cmpZ a a = 0
  | [] => rfl
  | x :: a => by unfold cmpZ; rw [if_neg (by omega), if_neg (by omega)]; exact cmpZ_self a
theorem cmpZ_cons (x y : Int) (p q : List Int) : cmpZ (x :: p) (y :: q) = if x < y then -1 else if y < x then 1 else cmpZ p q := rfl
noncomputable def k_Order : Ab.Spec := con2 some some fun v w objs => match ofIntsR .u8 objs v, ofIntsR .u8 objs w with | some a, some b => bnd a.length 140737488355328 (some (.int .i64 (cmpZ a b), none)) | _, _ => none
noncomputable def T_Order : CallF := withF T_EqualH 40 k_Order
theorem T_Order_ok : CallOk Try.prog T_Order := con_of (A := annOf [] [] [] false []) fit T_EqualH_ok (fn := Try.f40) (by kernel_rfl) (by kernel_rfl) (by
  intro args objs r h0
  obtain ⟨v, w, _, _, rfl, hv, hw, hR⟩ := con2_inv h0
  cases hv; cases hw
  split at hR
  case h_2 => cases hR
  rename_i a b ha hb
  obtain ⟨hl, hR⟩ := bnd_inv hR
  cases hR
  obtain ⟨hv, vd, vn, vi⟩ := bytesF ha
  obtain ⟨hw, wd, wn, wi⟩ := bytesF hb
  refine .go _ rfl rfl ?_
  simp -implicitDefEqProofs (disch := omega) [vd, wd]
  obtain ⟨I, hI⟩ : ∃ I : Nat → St → Prop, I = (fun (i : Nat) (z : St) => z.env 0 = v ∧ z.env 1 = w ∧ z.env 5 = .int .i64 i ∧ z.toks = [] ∧ z.low = objs.length ∧ z.objs = objs ∧ cmpZ a b = cmpZ (a.drop i) (b.drop i)) := ⟨_, rfl⟩
  refine .up (min a.length b.length) I (by rw [hI]; exact ⟨by simp, by simp, by simp, rfl, rfl, rfl, by simp⟩) ?_
  intro i z hi hz
  rw [hI] at hz
  obtain ⟨e0, e1, e5, ht, hlo, ho, hc⟩ := hz
  rcases Nat.lt_or_ge i (min a.length b.length) with h | h
  case inr =>
    rcases Nat.lt_trichotomy a.length b.length with q | q | q
    · obtain rfl : i = a.length := by omega
      have q2 : cmpZ a b = -1 := by rw [hc, List.drop_length, drop_nth q]; rfl
      have q3 : ¬ ((a.length : Int) < a.length) := by omega
      simp -implicitDefEqProofs (disch := omega) [e0, e1, e5, ht, ho, hlo, vn, wn, q, q2, q3]
    · obtain rfl : i = a.length := by omega
      have q2 : cmpZ a b = 0 := by rw [hc, List.drop_length, q, List.drop_length]; rfl
      have q3 : ¬ ((a.length : Int) < a.length) := by omega
      have q4 : ¬ (b.length < b.length) := by omega
      simp -implicitDefEqProofs (disch := omega) [e0, e1, e5, ht, ho, hlo, vn, wn, q, q2, q3, q4]
    · obtain rfl : i = b.length := by omega
      have q2 : cmpZ a b = 1 := by rw [hc, List.drop_length, drop_nth q]; rfl
      have q3 : ¬ (a.length < b.length) := by omega
      simp -implicitDefEqProofs (disch := omega) [e0, e1, e5, ht, ho, hlo, vn, wn, q, q2, q3]
  have h1 : i < a.length := by omega
  have h2 : i < b.length := by omega
  have ix := vi i h1
  have jx := wi i h2
  have g := byte_at hv h1
  have k := byte_at hw h2
  rw [drop_nth h1, drop_nth h2] at hc
  obtain ⟨x, hx⟩ : ∃ x, x = nth a i := ⟨_, rfl⟩
  obtain ⟨y, hy⟩ : ∃ y, y = nth b i := ⟨_, rfl⟩
  rw [← hx] at g hc
  rw [← hy] at k hc
  rw [cmpZ_cons] at hc
  by_cases q1 : x < y
  · rw [if_pos q1] at hc
    have hc' : cmpZ a b = -1 := hc
    simp -implicitDefEqProofs (disch := omega) [e0, e1, e5, ht, ho, hlo, vn, wn, h1, h2, ix, jx, g, k, q1, hc']
  · by_cases q2 : y < x
    · rw [if_neg q1, if_pos q2] at hc
      have hc' : cmpZ a b = 1 := hc
      simp -implicitDefEqProofs (disch := omega) [e0, e1, e5, ht, ho, hlo, vn, wn, h1, h2, ix, jx, g, k, q1, q2, hc']
    · rw [if_neg q1, if_neg q2] at hc
      have hc' : cmpZ a b = cmpZ (a.drop (i + 1)) (b.drop (i + 1)) := hc
      simp -implicitDefEqProofs (disch := omega) [e0, e1, e5, ht, ho, hlo, vn, wn, h1, h2, ix, jx, g, k, q1, q2, wrap_small]
      rw [hI]
      exact ⟨by omega, by simp [e0], by simp [e1], by simp, rfl, rfl, rfl, hc'⟩)

/-! the order of texts, sorted lists -/
theorem cmpZ_vals : ∀ a b : List Int, cmpZ a b = -1 ∨ cmpZ a b = 0 ∨ cmpZ a b = 1
  | [], [] => .inr (.inl rfl)
  | [], _ :: _ => .inl rfl
  | _ :: _, [] => .inr (.inr rfl)
  | a :: p, b :: q => by
    rw [cmpZ_cons]
    split
    · exact .inl rfl
    · split
      · exact .inr (.inr rfl)
      · exact cmpZ_vals p q
theorem cmpZ_zero : ∀ {a b : List Int}, cmpZ a b = 0 → a = b
  | [], [], _ => rfl
  | [], _ :: _, h => by simp [cmpZ] at h
  | _ :: _, [], h => by simp [cmpZ] at h
  | a :: p, b :: q, h => by
    rw [cmpZ_cons] at h
    split at h
    · cases h
    · split at h
      · cases h
      · rw [cmpZ_zero h, show a = b by omega]
theorem cmpZ_swap : ∀ a b : List Int, cmpZ b a = - cmpZ a b
  | [], [] => rfl
  | [], _ :: _ => rfl
  | _ :: _, [] => rfl
  | a :: p, b :: q => by
    rw [cmpZ_cons, cmpZ_cons]
    by_cases h1 : a < b
    · rw [if_pos h1, if_neg (by omega), if_pos h1]; rfl
    · by_cases h2 : b < a
      · simp [h1, h2]
      · rw [if_neg h1, if_neg h2, if_neg h2, if_neg h1]; exact cmpZ_swap p q
theorem cmpZ_trans : ∀ {a b c : List Int}, cmpZ a b < 0 → cmpZ b c < 0 → cmpZ a c < 0
  | [], [], _, h, _ => by simp [cmpZ] at h
  | [], _ :: _, [], _, h => by simp [cmpZ] at h
  | [], _ :: _, _ :: _, _, _ => by simp [cmpZ]
  | _ :: _, [], _, h, _ => by simp [cmpZ] at h
  | _ :: _, _ :: _, [], _, h => by simp [cmpZ] at h
  | a :: p, b :: q, c :: r, h, k => by
    rw [cmpZ_cons] at h k ⊢
    split at h
    · split at k
      · rw [if_pos (by omega)]; decide
      · split at k
        · cases k
        · rw [if_pos (by omega)]; decide
    · split at h
      · cases h
      · split at k
        · rw [if_pos (by omega)]; decide
        · split at k
          · cases k
          · rw [if_neg (by omega), if_neg (by omega)]; exact cmpZ_trans h k
theorem pre_true {x : Option Rs} : pre True x = x := pre_pos trivial
def Srt (ts : List (List Int)) : Prop := ts.Pairwise fun a b => cmpZ a b < 0
theorem Srt.nth {ts : List (List Int)} (h : Srt ts) {i j : Nat} (hi : i < j) (hj : j < ts.length) : cmpZ (Ab.nth ts i) (Ab.nth ts j) < 0 := by
  rw [nth_lt hj, nth_lt (by omega : i < ts.length)]
  exact List.pairwise_iff_getElem.1 h i j _ _ hi
/-- How many stand ahead. -/
def aheadN (ts : List (List Int)) (s : List Int) : Nat := (ts.takeWhile fun t => decide (cmpZ t s < 0)).length
theorem ahead_stop {s : List Int} : ∀ {ts : List (List Int)} {i : Nat}, i ≤ ts.length → (∀ j, j < i → cmpZ (nth ts j) s < 0) → (i = ts.length ∨ ¬ cmpZ (nth ts i) s < 0) → aheadN ts s = i
  | [], i, h, _, _ => by simp at h; subst h; rfl
  | t :: ts, 0, _, _, h => by
    have h : ¬ cmpZ t s < 0 := by
      rcases h with h | h
      · simp at h
      · exact h
    simp [aheadN, h]
  | t :: ts, i + 1, h1, h2, h3 => by
    have h0 : cmpZ t s < 0 := h2 0 (by omega)
    have ih := ahead_stop (s := s) (ts := ts) (i := i) (by simpa using h1) (fun j hj => by have := h2 (j + 1) (by omega); rwa [nth_cons_succ] at this) (by
      rcases h3 with h | h
      · left; simpa using h
      · right; rwa [nth_cons_succ] at h)
    unfold aheadN at ih ⊢
    simp [h0, ih]
theorem ahead_le (ts : List (List Int)) (s : List Int) : aheadN ts s ≤ ts.length := by
  unfold aheadN; exact (List.takeWhile_sublist _).length_le
theorem ahead_less {s : List Int} : ∀ {ts : List (List Int)} {i : Nat}, i < aheadN ts s → cmpZ (nth ts i) s < 0
  | [], i, h => by simp [aheadN] at h
  | t :: ts, i, h => by
    by_cases h0 : cmpZ t s < 0
    · have e : aheadN (t :: ts) s = aheadN ts s + 1 := by simp [aheadN, h0]
      cases i with
      | zero => exact h0
      | succ i => rw [nth_cons_succ]; exact ahead_less (by omega)
    · have e : aheadN (t :: ts) s = 0 := by simp [aheadN, h0]
      omega
theorem ahead_not {s : List Int} : ∀ {ts : List (List Int)}, aheadN ts s < ts.length → ¬ cmpZ (nth ts (aheadN ts s)) s < 0
  | [], h => by simp at h
  | t :: ts, h => by
    by_cases h0 : cmpZ t s < 0
    · have e : aheadN (t :: ts) s = aheadN ts s + 1 := by simp [aheadN, h0]
      rw [e] at h ⊢
      rw [nth_cons_succ]
      exact ahead_not (by simpa using h)
    · have e : aheadN (t :: ts) s = 0 := by simp [aheadN, h0]
      rw [e]; exact h0
theorem ahead_srt {ts : List (List Int)} {s : List Int} (h : Srt ts) {i : Nat} (hi : i < ts.length) : (cmpZ (nth ts i) s < 0) ↔ i < aheadN ts s := by
  refine ⟨fun hc => ?_, ahead_less⟩
  rcases Nat.lt_or_ge i (aheadN ts s) with q | q
  · exact q
  · exfalso
    have hn := ahead_not (ts := ts) (s := s) (by omega)
    rcases Nat.eq_or_lt_of_le q with e | e
    · rw [e] at hn; exact hn hc
    · exact hn (cmpZ_trans (h.nth e hi) hc)
def ins (ts : List (List Int)) (s : List Int) : List (List Int) := if aheadN ts s < ts.length ∧ nth ts (aheadN ts s) = s then ts else ts.take (aheadN ts s) ++ s :: ts.drop (aheadN ts s)
theorem ins_srt {ts : List (List Int)} {s : List Int} (h : Srt ts) : Srt (ins ts s) := by
  unfold ins
  split
  · exact h
  rename_i hn
  have hl := ahead_le ts s
  obtain ⟨k, hk⟩ : ∃ k, k = aheadN ts s := ⟨_, rfl⟩
  rw [← hk] at hn hl ⊢
  have hd : ∀ b ∈ ts.drop k, cmpZ s b < 0 := fun b hb => by
    obtain ⟨j, hj, rfl⟩ := nth_of_mem hb
    rw [nth_drop]
    rw [List.length_drop] at hj
    have h1 : ¬ cmpZ (nth ts k) s < 0 := by rw [hk]; exact ahead_not (by omega)
    have h2 : cmpZ s (nth ts k) < 0 := by
      have := cmpZ_swap (nth ts k) s
      rcases cmpZ_vals (nth ts k) s with q | q | q
      · omega
      · exact absurd ⟨by omega, cmpZ_zero q⟩ hn
      · omega
    rcases Nat.eq_zero_or_pos j with e | e
    · subst e; exact h2
    · exact cmpZ_trans h2 (h.nth (by omega) (by omega))
  have ht : ∀ a ∈ ts.take k, cmpZ a s < 0 := fun a ha => by
    obtain ⟨j, hj, rfl⟩ := nth_of_mem ha
    rw [List.length_take] at hj
    rw [nth_take (by omega)]
    exact ahead_less (by omega)
  have hp : (ts.take k ++ ts.drop k).Pairwise fun a b => cmpZ a b < 0 := by rw [List.take_append_drop]; exact h
  obtain ⟨p1, p2, p3⟩ := List.pairwise_append.1 hp
  refine List.pairwise_append.2 ⟨p1, List.pairwise_cons.2 ⟨hd, p2⟩, fun a ha b hb => ?_⟩
  rcases List.mem_cons.1 hb with q | q
  · rw [q]; exact ht a ha
  · exact p3 a ha b q
theorem ins_mem {ts : List (List Int)} {s t : List Int} (h : t ∈ ins ts s) : t ∈ ts ∨ t = s := by
  unfold ins at h
  split at h
  · exact .inl h
  · rcases List.mem_append.1 h with q | q
    · exact .inl (List.mem_of_mem_take q)
    · rcases List.mem_cons.1 q with q | q
      · exact .inr q
      · exact .inl (List.mem_of_mem_drop q)
theorem ins_len (ts : List (List Int)) (s : List Int) : (ins ts s).length ≤ ts.length + 1 := by
  unfold ins
  split
  · omega
  · rw [List.length_append, List.length_cons, List.length_take, List.length_drop]; omega
/-- The texts, sorted, each once. -/
def idx (ss : List (List Int)) : Nat → List (List Int)
  | 0 => []
  | i + 1 => ins (idx ss i) (nth ss i)
theorem idx_facts (ss : List (List Int)) : ∀ i, i ≤ ss.length → Srt (idx ss i) ∧ (idx ss i).length ≤ i ∧ ∀ t ∈ idx ss i, t ∈ ss
  | 0, _ => ⟨List.Pairwise.nil, by simp [idx], by simp [idx]⟩
  | i + 1, h => by
    obtain ⟨h1, h2, h3⟩ := idx_facts ss i (by omega)
    refine ⟨ins_srt h1, ?_, fun t ht => ?_⟩
    · have := ins_len (idx ss i) (nth ss i); simp only [idx]; omega
    · rcases ins_mem ht with q | q
      · exact h3 t q
      · rw [q]; exact nth_mem (by omega)

/-! towers -/
structure Nd where
  kv : V
  key : List Int
  val : Int
  nx : Nat → Int
instance : Inhabited Nd := ⟨⟨.nils, [], 0, fun _ => 0⟩⟩
def nxt (ht : Nat → Nat) (h : Nat) : List Nat → Nat
  | [] => 0
  | j :: l => if h < ht j then j else nxt ht h l
def lstN (ht : Nat → Nat) (h : Nat) : Nat → List Nat → Nat
  | d, [] => d
  | d, j :: l => lstN ht h (if h < ht j then j else d) l
theorem nxt_none {ht : Nat → Nat} {h : Nat} : ∀ {l r : List Nat}, (∀ j ∈ l, ¬ h < ht j) → nxt ht h (l ++ r) = nxt ht h r
  | [], r, _ => rfl
  | j :: l, r, hn => by
    show (if h < ht j then j else nxt ht h (l ++ r)) = _
    rw [if_neg (hn j (by simp)), nxt_none fun i hi => hn i (by simp [hi])]
theorem lstN_none {ht : Nat → Nat} {h : Nat} : ∀ {l : List Nat} {d : Nat}, (∀ j ∈ l, ¬ h < ht j) → lstN ht h d l = d
  | [], d, _ => rfl
  | j :: l, d, hn => by
    show lstN ht h (if h < ht j then j else d) l = _
    rw [if_neg (hn j (by simp)), lstN_none fun i hi => hn i (by simp [hi])]
theorem lstN_app {ht : Nat → Nat} {h : Nat} : ∀ {a b : List Nat} {d : Nat}, lstN ht h d (a ++ b) = lstN ht h (lstN ht h d a) b
  | [], b, d => rfl
  | j :: a, b, d => by show lstN ht h (if h < ht j then j else d) (a ++ b) = _; rw [lstN_app]; rfl
theorem lstN_cons {ht : Nat → Nat} {h j d : Nat} {l : List Nat} (hj : h < ht j) : lstN ht h d (j :: l) = lstN ht h j l := by
  show lstN ht h (if h < ht j then j else d) l = _; rw [if_pos hj]
/-- The first of those that are high enough, or none. -/
theorem first_cases (ht : Nat → Nat) (h : Nat) : ∀ l : List Nat, (∀ j ∈ l, ¬ h < ht j) ∨ ∃ a j b, l = a ++ j :: b ∧ (∀ i ∈ a, ¬ h < ht i) ∧ h < ht j
  | [] => .inl (by simp)
  | i :: l => by
    by_cases q : h < ht i
    · exact .inr ⟨[], i, l, rfl, by simp, q⟩
    · rcases first_cases ht h l with k | ⟨a, j, b, rfl, k1, k2⟩
      · exact .inl fun j hj => by rcases List.mem_cons.1 hj with rfl | hj; exact q; exact k j hj
      · exact .inr ⟨i :: a, j, b, rfl, fun x hx => by rcases List.mem_cons.1 hx with rfl | hx; exact q; exact k1 x hx, k2⟩
/-- The last of those. -/
theorem last_cases (ht : Nat → Nat) (h : Nat) : ∀ (l : List Nat) (d : Nat), ((∀ j ∈ l, ¬ h < ht j) ∧ lstN ht h d l = d) ∨ ∃ a b, l = a ++ lstN ht h d l :: b ∧ (∀ i ∈ b, ¬ h < ht i) ∧ h < ht (lstN ht h d l)
  | [], d => .inl ⟨by simp, rfl⟩
  | j :: l, d => by
    by_cases q : h < ht j
    · have e : lstN ht h d (j :: l) = lstN ht h j l := lstN_cons q
      rw [e]
      rcases last_cases ht h l j with ⟨k, k2⟩ | ⟨a, b, k1, k2, k3⟩
      · rw [k2]; exact .inr ⟨[], l, rfl, k, q⟩
      · exact .inr ⟨j :: a, b, by rw [List.cons_append, ← k1], k2, k3⟩
    · have e : lstN ht h d (j :: l) = lstN ht h d l := by show lstN ht h (if h < ht j then j else d) l = _; rw [if_neg q]
      rw [e]
      rcases last_cases ht h l d with ⟨k, k2⟩ | ⟨a, b, k1, k2, k3⟩
      · exact .inl ⟨fun i hi => by rcases List.mem_cons.1 hi with rfl | hi; exact q; exact k i hi, k2⟩
      · exact .inr ⟨j :: a, b, by rw [List.cons_append, ← k1], k2, k3⟩
structure Lnk (c : Nat) (f : Nat → Nd) (ord : List Nat) (ht : Nat → Nat) : Prop where
  len : c = ord.length + 1
  mem : ∀ i ∈ ord, 0 < i ∧ i < c
  h0 : ht 0 = 12
  hp : ∀ i ∈ ord, 1 ≤ ht i ∧ ht i ≤ 12
  nx : ∀ A i B, 0 :: ord = A ++ i :: B → ∀ h, h < 12 → (f i).nx h = if h < ht i then (nxt ht h B : Int) else 0
  srt : ord.Pairwise fun i j => cmpZ (f i).key (f j).key < 0
  key : ∀ i ∈ ord, ofInts .u8 (f i).kv = some (f i).key ∧ b8 (f i).key = true ∧ (f i).key.length < 140737488355300
/-- The keys ahead of one, and the others. -/
structure Cut (f : Nat → Nd) (ord : List Nat) (k : List Int) (P S : List Nat) : Prop where
  app : ord = P ++ S
  lo : ∀ i ∈ P, cmpZ (f i).key k < 0
  hi : ∀ i ∈ S, ¬ cmpZ (f i).key k < 0
theorem Lnk.cut {c : Nat} {f : Nat → Nd} {ord : List Nat} {ht : Nat → Nat} (L : Lnk c f ord ht) (k : List Int) : ∃ P S, Cut f ord k P S := by
  have hs := L.srt
  clear L
  induction ord with
  | nil => exact ⟨[], [], rfl, by simp, by simp⟩
  | cons i l ih =>
    rw [List.pairwise_cons] at hs
    by_cases q : cmpZ (f i).key k < 0
    · obtain ⟨P, S, h1, h2, h3⟩ := ih hs.2
      exact ⟨i :: P, S, by rw [h1]; rfl, fun j hj => by rcases List.mem_cons.1 hj with rfl | hj; exact q; exact h2 j hj, h3⟩
    · refine ⟨[], i :: l, rfl, by simp, fun j hj => ?_⟩
      rcases List.mem_cons.1 hj with rfl | hj
      · exact q
      · exact fun z => q (cmpZ_trans (hs.1 j hj) z)
theorem nxt_mem {ht : Nat → Nat} {h : Nat} : ∀ {l : List Nat}, nxt ht h l = 0 ∨ nxt ht h l ∈ l
  | [] => .inl rfl
  | j :: l => by
    show (if h < ht j then j else nxt ht h l) = 0 ∨ (if h < ht j then j else nxt ht h l) ∈ j :: l
    split
    · exact .inr (by simp)
    · rcases nxt_mem (ht := ht) (h := h) (l := l) with k | k
      · exact .inl k
      · exact .inr (by simp [k])
theorem nxt_zero {ht : Nat → Nat} : ∀ {l : List Nat}, (∀ j ∈ l, 1 ≤ ht j) → nxt ht 0 l = l.headD 0
  | [], _ => rfl
  | j :: l, h => by show (if 0 < ht j then j else nxt ht 0 l) = j; rw [if_pos (show 0 < ht j from h j (by simp))]
/-- What a search finds at a height. -/
def atH (ht : Nat → Nat) (h : Nat) (P : List Nat) : Nat := lstN ht h 0 P
theorem atH_top {c : Nat} {f : Nat → Nd} {ord P S : List Nat} {ht : Nat → Nat} {k : List Int} (L : Lnk c f ord ht) (C : Cut f ord k P S) : atH ht 12 P = 0 := lstN_none fun j hj => by have := (L.hp j (by rw [C.app]; simp [hj])).2; omega
/-- One height down: from where the search at the height above ended. -/
theorem down {c : Nat} {f : Nat → Nd} {ord P S : List Nat} {ht : Nat → Nat} {k : List Int} (L : Lnk c f ord ht) (C : Cut f ord k P S) (h : Nat) (hh : h < 12) : ∃ A B, 0 :: P = A ++ atH ht (h + 1) P :: B ∧ h < ht (atH ht (h + 1) P) ∧ lstN ht h (atH ht (h + 1) P) B = atH ht h P := by
  unfold atH
  rcases last_cases ht (h + 1) P 0 with ⟨k1, k2⟩ | ⟨a, b, k1, k2, k3⟩
  · rw [k2]; exact ⟨[], P, rfl, by rw [L.h0]; omega, rfl⟩
  · obtain ⟨j, hj⟩ : ∃ j, j = lstN ht (h + 1) 0 P := ⟨_, rfl⟩
    rw [← hj] at k1 k3 ⊢
    refine ⟨0 :: a, b, by rw [k1]; rfl, by omega, ?_⟩
    rw [k1, lstN_app, lstN_cons (by omega)]
theorem Lnk.at_ {c : Nat} {f : Nat → Nd} {ord P S : List Nat} {ht : Nat → Nat} {k : List Int} (L : Lnk c f ord ht) (C : Cut f ord k P S) {A B : List Nat} {i : Nat} (e : 0 :: P = A ++ i :: B) {h : Nat} (hh : h < 12) (hi : h < ht i) : (f i).nx h = (nxt ht h (B ++ S) : Int) := by
  have := L.nx A i (B ++ S) (by rw [C.app, ← List.cons_append, e]; simp) h hh
  rw [this, if_pos hi]
theorem split_mem {P A B : List Nat} {i : Nat} (e : 0 :: P = A ++ i :: B) : i = 0 ∨ i ∈ P := by
  have : i ∈ 0 :: P := by rw [e]; simp
  rcases List.mem_cons.1 this with h | h
  · exact .inl h
  · exact .inr h
theorem rest_mem {P A B : List Nat} {i j : Nat} (e : 0 :: P = A ++ i :: B) (h : j ∈ B) : j ∈ P := by
  cases A with
  | nil => cases e; exact h
  | cons x A => cases e; simp [h]

/-! a list in memory -/
structure SkI (O : List AO) (b c : Nat) (f : Nat → Nd) (ord : List Nat) (ht : Nat → Nat) (hs : List Int) (tk : Nat) (hg : Int) (nv : Nat) (hv : V) (X : List V) : Prop where
  lnk : Lnk c f ord ht
  head : O[b + 1]? = some (.cells [.ref b nv 0 c 14, hv, .int .i64 tk, .int .i64 hg] 0)
  nodes : O[b]? = some (.cells X nv)
  xl : X.length = c * 14
  xk : ∀ i, i < c → X[i * 14]? = some (f i).kv
  xv : ∀ i, i < c → X[i * 14 + 1]? = some (.int .i64 (f i).val)
  xn : ∀ i h, i < c → h < 12 → X[i * 14 + 2 + h]? = some (.int .i64 ((f i).nx h))
  hts : ofIntsR .i64 O hv = some hs ∧ (hv = .nils ∨ ∃ hver, hv = .ref (b + 2) hver 0 hs.length 1 ∧ hs ≠ []) ∧ ∀ x ∈ hs, 1 ≤ x ∧ x ≤ 12
  bc : c ≤ 4000000
  bt : tk ≤ 4000000
  bh : hs.length < 140737488355328

end Go.Proofs.Ytdfcbophcfjakaa.B
set_option maxRecDepth 20000
set_option maxHeartbeats 1000000
namespace Go.Proofs.Ytdfcbophcfjakaa.B
open Go Go.Ab
/-! the search -/
def twC (ht : Nat → Nat) (P : List Nat) (t : Nat) (h : Nat) : Int := if 12 - t ≤ h then (atH ht h P : Int) else 0
def twL (g : Nat → Int) : List Int := (List.range 12).map g
theorem twL_len (g : Nat → Int) : (twL g).length = 12 := by simp [twL]
theorem twL_nth {g : Nat → Int} {h : Nat} (hh : h < 12) : nth (twL g) h = g h := by
  unfold twL
  rw [nth_map (by simpa using hh)]
  congr 1
  simp [nth, hh]
theorem tw_set {g : Nat → Int} {h : Nat} (hh : h < 12) (x : Int) : (twL g).set h x = twL (fun i => if i = h then x else g i) := by
  refine ext_nth (by rw [List.length_set, twL_len, twL_len]) fun i hi => ?_
  rw [List.length_set, twL_len] at hi
  rw [twL_nth hi]
  by_cases e : i = h
  · subst e; rw [if_pos rfl, nth_lt (by rw [List.length_set, twL_len]; exact hi)]; simp
  · rw [if_neg e, nth_lt (by rw [List.length_set, twL_len]; exact hi), List.getElem_set_ne (fun q => e q.symm), ← nth_lt (by rw [twL_len]; exact hi), twL_nth hi]
theorem ints_setI {k : IntKind} {l : List Int} {i : Nat} {c : Int} (h : i < l.length) : setCells (ints k l) i [.int k c] = ints k (l.set i c) := by
  unfold setCells ints
  rw [← List.map_take, ← List.map_drop, List.set_eq_take_append_cons_drop, if_pos h]
  simp
structure SkK (O : List AO) (l kv : V) (b c : Nat) (f : Nat → Nd) (ord : List Nat) (ht : Nat → Nat) (hs : List Int) (tk : Nat) (hg : Int) (nv : Nat) (hv : V) (X : List V) (k : List Int) (P S : List Nat) : Prop where
  le : l = .ptr (b + 1) 0 0
  I : SkI O b c f ord ht hs tk hg nv hv X
  kk : ofIntsR .u8 O kv = some k
  k8 : b8 k = true
  kl : k.length < 140737488355000
  C : Cut f ord k P S
theorem getObj_of {O : List AO} {id : Nat} {cs : List V} {v : Nat} (h : O[id]? = some (.cells cs v)) : Ab.getObj O id v = some cs := by simp [Ab.getObj, h]
def p_find : List V → List AO → Rs → Prop := fun args objs r => ∃ l kv b c f ord ht hs tk hg nv hv X k P S, args = [l, kv] ∧ SkK objs l kv b c f ord ht hs tk hg nv hv X k P S ∧ r = (.tup [.agg (ints .i64 (twL fun h => (atH ht h P : Int))), .int .i64 ((S.headD 0 : Nat) : Int)], none)
noncomputable def k_find : Ab.Spec := relF (fun a o r => p_find a o r ∧ EndsS Try.prog (annOf [] [] [] false []) T_Order 36 Try.f36 a o r)
noncomputable def T_find : CallF := withF T_Order 36 k_find
theorem T_find_ok : CallOk Try.prog T_find := con_ofS (A := annOf [] [] [] false []) fit T_Order_ok (fn := Try.f36) (by kernel_rfl) (fun args objs r h0 => (relF_inv h0).2)
theorem s_find  {objs : List AO} {l kv : V} {b c : Nat} {f : Nat → Nd} {ord : List Nat} {ht : Nat → Nat} {hs : List Int} {tk : Nat} {hg : Int} {nv : Nat} {hv : V} {X : List V} {k : List Int} {P S : List Nat} (K : SkK objs l kv b c f ord ht hs tk hg nv hv X k P S) : ∃ r, k_find [l, kv] objs = some r ∧ p_find [l, kv] objs r := by
  have c_Compare : ∀ a o, T_Order 32 a o = k_Compare a o := fun _ _ => rfl
  have goal : ∀ r : Rs, r = (V.tup [.agg (ints .i64 (twL fun h => (atH ht h P : Int))), .int .i64 ((S.headD 0 : Nat) : Int)], none) → p_find [l, kv] objs r := fun r hr => ⟨l, kv, b, c, f, ord, ht, hs, tk, hg, nv, hv, X, k, P, S, rfl, K, hr⟩
  refine rel_goS _ rfl rfl ?_
  obtain ⟨rfl, I, hk, k8, kl, C⟩ := K
  obtain ⟨L, ihead, inodes, xl, xk, xv, xn, -, bc, bt⟩ := I
  obtain ⟨pk, kd, -⟩ := bsR hk
  obtain ⟨n, hn⟩ : ∃ n, n = objs.length := ⟨_, rfl⟩
  have hlt1 : b + 1 < n := by rw [hn]; exact getObj_lt (getObj_of ihead)
  have hlt : b < n := by omega
  have hc0 : 0 < c := by rw [L.len]; omega
  have hmem : ∀ i, i = 0 ∨ i ∈ P → i < c := fun i hi => by
    rcases hi with rfl | hi
    · exact hc0
    · exact (L.mem i (by rw [C.app]; simp [hi])).2
  obtain ⟨O, hO⟩ : ∃ O : List Int → List AO, O = fun g => objs ++ [.cells (ints .i64 g) 0] := ⟨_, rfl⟩
  have oh : ∀ g, Ab.getObj (O g) (b + 1) 0 = some [.ref b nv 0 c 14, hv, .int .i64 tk, .int .i64 hg] := fun g => by rw [hO]; exact (getObj_app (by omega)).trans (getObj_of ihead)
  have on : ∀ g, Ab.getObj (O g) b nv = some X := fun g => by rw [hO]; exact (getObj_app (by omega)).trans (getObj_of inodes)
  have ob : ∀ g, Ab.getObj (O g) n 0 = some (ints .i64 g) := fun g => by rw [hO, hn]; simp
  have os : ∀ g g', (O g).set n (.cells (ints .i64 g') 0) = O g' := fun g g' => by rw [hO, hn]; simp
  have ol : ∀ g, (O g).length = n + 1 := fun g => by rw [hO, hn]; simp
  have okv : ∀ g, ofIntsR .u8 (O g) kv = some k := fun g => by rw [hO]; exact ofIntsR_app hk
  have hO0 : objs ++ [.cells (ints .i64 (twL fun _ => 0)) 0] = O (twL fun _ => 0) := by rw [hO]
  refine ToS.front (M := fun s => s.env 0 = .ptr (b + 1) 0 0 ∧ s.env 1 = kv ∧ s.env 4 = .ptr n 0 0 ∧ s.toks = [] ∧ s.low = n ∧ s.objs = O (twL fun _ => 0)) fit.mixed T_Order_ok (by kernel_rfl) ?_ ?_
  · simp -implicitDefEqProofs (disch := omega) [← hn]
    exact ⟨rfl, by simp, by simp, by simp, rfl, rfl, by rw [← hO0]; rfl⟩
  rintro s ⟨e0, e1, e4, ht', hlo, ho⟩
  refine ToS.front (M := fun s => s.env 0 = .ptr (b + 1) 0 0 ∧ s.env 1 = kv ∧ s.env 4 = .ptr n 0 0 ∧ s.env 6 = .int .i64 0 ∧ s.toks = [] ∧ s.low = n ∧ s.objs = O (twL fun _ => 0)) fit.mixed T_Order_ok (by kernel_rfl) ?_ ?_
  · simp -implicitDefEqProofs (disch := omega) [e0, e1, e4, ht', hlo, ho]
    exact ⟨rfl, by simp [e0], by simp [e1], by simp [e4], by simp, rfl, rfl, rfl⟩
  clear e0 e1 e4 ht' hlo ho
  clear s
  rintro s ⟨e0, e1, e4, e6, ht', hlo, ho⟩
  refine ToS.front (M := fun s => s.env 0 = .ptr (b + 1) 0 0 ∧ s.env 1 = kv ∧ s.env 4 = .ptr n 0 0 ∧ s.env 6 = .int .i64 (atH ht 0 P : Nat) ∧ s.toks = [] ∧ s.low = n ∧ s.objs = O (twL fun h => (atH ht h P : Int))) fit.mixed T_Order_ok (by kernel_rfl) ?_ ?_
  · simp -implicitDefEqProofs (disch := omega) [e0, e1, e4, e6, ht', hlo, ho]
    obtain ⟨J, hJ⟩ : ∃ J : Nat → St → Prop, J = (fun (t : Nat) (z : St) => z.env 0 = .ptr (b + 1) 0 0 ∧ z.env 1 = kv ∧ z.env 4 = .ptr n 0 0 ∧ z.env 7 = .int .i64 (11 - (t : Int)) ∧ z.env 6 = .int .i64 (atH ht (12 - t) P : Nat) ∧ z.toks = [] ∧ z.low = n ∧ z.objs = O (twL (twC ht P t))) := ⟨_, rfl⟩
    refine .up 12 J (by rw [hJ]; exact ⟨by simp [e0], by simp [e1], by simp [e4], by simp, by simp [e6, atH_top L C], by simp [ht'], by simp [hlo], by simp [ho, twC]; rfl⟩) ?_
    clear e0 e1 e4 e6 ht' hlo ho
    clear s
    intro t z hi hz
    rw [hJ] at hz
    obtain ⟨e0, e1, e4, e7, e6, ht', hlo, ho⟩ := hz
    rcases Nat.lt_or_ge t 12 with q | q
    case inr =>
      obtain rfl : t = 12 := by omega
      simp -implicitDefEqProofs (disch := omega) [e0, e1, e4, e7, e6, ht', hlo, ho]
      have htw : twC ht P 12 = fun h => (atH ht h P : Int) := by funext k; unfold twC; rw [if_pos (by omega)]
      exact ⟨rfl, by simp [e0], by simp [e1], by simp [e4], by simp [e6], rfl, rfl, by simp [htw]⟩
    obtain ⟨h, hh⟩ : ∃ h, h = 11 - t := ⟨_, rfl⟩
    have h11 : 11 - (t : Int) = h := by omega
    have h12 : 12 - t = h + 1 := by omega
    have hh12 : h < 12 := by omega
    rw [h11] at e7
    rw [h12] at e6
    obtain ⟨A, B, s1, s2, s3⟩ := down L C h hh12
    obtain ⟨i, hi2⟩ : ∃ i, i = atH ht (h + 1) P := ⟨_, rfl⟩
    rw [← hi2] at s1 s2 s3 e6
    have hic := hmem i (split_mem s1)
    have x1 := xn i h hic hh12
    rw [L.at_ C s1 hh12 s2] at x1
    have hz12 : (h : Int) < 12 := by omega
    simp -implicitDefEqProofs (disch := omega) [e0, e1, e4, e7, e6, ht', hlo, ho, oh, on, hic, hh12, hz12, x1, of_get x1]
    obtain ⟨N, hN⟩ : ∃ N : Nat → St → Prop, N = (fun (m : Nat) (z : St) => ∃ A B i, 0 :: P = A ++ i :: B ∧ h < ht i ∧ lstN ht h i B = atH ht h P ∧ B.length = m ∧ z.env 0 = .ptr (b + 1) 0 0 ∧ z.env 1 = kv ∧ z.env 4 = .ptr n 0 0 ∧ z.env 7 = .int .i64 h ∧ z.env 6 = .int .i64 i ∧ z.env 8 = .int .i64 (nxt ht h (B ++ S) : Nat) ∧ z.toks = [] ∧ z.low = n ∧ z.objs = O (twL (twC ht P t))) := ⟨_, rfl⟩
    refine .dn B.length N (by rw [hN]; exact ⟨A, B, i, s1, s2, s3, rfl, by simp [e0], by simp [e1], by simp [e4], by simp [e7], by simp [e6], by simp, by simp [ht'], by simp [hlo], by simp [ho]⟩) ?_
    clear e0 e1 e4 e7 e6 ht' hlo ho
    intro m z hz
    rw [hN] at hz
    obtain ⟨A, B, i, s1, s2, s3, hm, e0, e1, e4, e7, e6, e8, ht', hlo, ho⟩ := hz
    have stop : ∀ (w : Nat), w = nxt ht h S → lstN ht h i B = i → nxt ht h (B ++ S) = w → i = atH ht h P := fun w _ q _ => by rw [← s3, q]
    have htw : setCells (ints .i64 (twL (twC ht P t))) h [.int .i64 (atH ht h P : Nat)] = ints .i64 (twL (twC ht P (t + 1))) := by
      rw [ints_setI (by rw [twL_len]; exact hh12), tw_set hh12]
      congr 2
      funext k
      unfold twC
      by_cases q1 : k = h
      · subst q1; rw [if_pos rfl, if_pos (by omega)]
      · rw [if_neg q1]
        by_cases q2 : 12 - t ≤ k
        · rw [if_pos q2, if_pos (by omega)]
        · rw [if_neg q2, if_neg (by omega)]
    rcases first_cases ht h B with hno | ⟨a, j, b', hB, ha, hj⟩
    · have hl := lstN_none (d := i) hno
      have hia : i = atH ht h P := by rw [← s3, hl]
      have hnx : nxt ht h (B ++ S) = nxt ht h S := nxt_none hno
      rw [hnx] at e8
      rw [hia] at e6
      have wt : 11 - ((t + 1 : Nat) : Int) = (h : Int) - 1 := by omega
      have w12 : 12 - (t + 1) = h := by omega
      have fin : ∀ z' : St, z'.env 0 = .ptr (b + 1) 0 0 → z'.env 1 = kv → z'.env 4 = .ptr n 0 0 → z'.env 7 = .int .i64 ((h : Int) - 1) → z'.env 6 = .int .i64 (atH ht h P : Nat) → z'.toks = [] → z'.low = n → z'.objs = O (twL (twC ht P (t + 1))) → J (t + 1) z' := fun z' a1 a2 a3 a4 a5 a6 a7 a8 => by
        rw [hJ]; exact ⟨a1, a2, a3, by rw [wt]; exact a4, by rw [w12]; exact a5, a6, a7, a8⟩
      have tl12 : (twL (twC ht P t)).length = 12 := twL_len _
      have wh : IntKind.i64.wrap ((h : Int) - 1) = (h : Int) - 1 := wrap_small (by omega) (by omega)
      have hh1 : h + 1 ≤ 12 := hh12
      rcases nxt_mem (ht := ht) (h := h) (l := S) with h0 | hS
      · rw [h0] at e8
        simp -implicitDefEqProofs (disch := omega) [e0, e1, e4, e7, e6, e8, ht', hlo, ho, ob, hz12, htw, os, tl12, hh12, hh1, wh]
        exact ⟨q, fin _ (by simp [e0]) (by simp [e1]) (by simp [e4]) (by simp) (by simp [e6]) rfl rfl rfl⟩
      · obtain ⟨j, hj⟩ : ∃ j, j = nxt ht h S := ⟨_, rfl⟩
        rw [← hj] at hS e8
        have hjo : j ∈ ord := by rw [C.app]; simp [hS]
        obtain ⟨j0, jc⟩ := L.mem j hjo
        obtain ⟨k1, k2, k3⟩ := L.key j hjo
        obtain ⟨kvd, -⟩ := bs k1
        have hcm := C.hi j hS
        rw [← cmpB_eq (b8_iff.1 k2) (b8_iff.1 k8)] at hcm
        have xj := xk j jc
        have jz : (0 : Int) < j := by omega
        have k1R := fun g => ofIntsR_of (objs := O g) k1
        simp -implicitDefEqProofs (disch := omega) [e0, e1, e4, e7, e6, e8, ht', hlo, ho, oh, on, ob, hz12, htw, os, tl12, hh12, hh1, wh, j0, jc, jz, xj, of_get xj, kvd, kd, c_Compare, k_Compare, k1R, okv, hcm]
        exact ⟨q, fin _ (by simp [e0]) (by simp [e1]) (by simp [e4]) (by simp) (by simp [e6]) rfl rfl rfl⟩
    · have hjP : j ∈ P := rest_mem s1 (by rw [hB]; simp)
      have hjo : j ∈ ord := by rw [C.app]; simp [hjP]
      obtain ⟨j0, jc⟩ := L.mem j hjo
      obtain ⟨k1, k2, k3⟩ := L.key j hjo
      obtain ⟨kvd, -⟩ := bs k1
      have hcm := C.lo j hjP
      rw [← cmpB_eq (b8_iff.1 k2) (b8_iff.1 k8)] at hcm
      have xj := xk j jc
      have jz : (0 : Int) < j := by omega
      have k1R := fun g => ofIntsR_of (objs := O g) k1
      have hnx : nxt ht h (B ++ S) = j := by
        rw [hB, List.append_assoc, nxt_none ha]
        show (if h < ht j then j else nxt ht h (b' ++ S)) = j
        rw [if_pos hj]
      rw [hnx] at e8
      have s1' : 0 :: P = (A ++ i :: a) ++ j :: b' := by rw [s1, hB]; simp
      have s3' : lstN ht h j b' = atH ht h P := by rw [← s3, hB, lstN_app, lstN_cons hj]
      have xn2 := xn j h jc hh12
      rw [L.at_ C s1' hh12 hj] at xn2
      have hlen : b'.length < m := by rw [← hm, hB]; simp; omega
      simp -implicitDefEqProofs (disch := omega) [e0, e1, e4, e7, e6, e8, ht', hlo, ho, oh, on, hz12, hh12, j0, jc, jz, xj, of_get xj, kvd, kd, c_Compare, k_Compare, k1R, okv, hcm, xn2, of_get xn2]
      exact ⟨b'.length, hlen, by rw [hN]; exact ⟨_, _, _, s1', hj, s3', rfl, by simp [e0], by simp [e1], by simp [e4], by simp [e7], by simp, by simp, rfl, rfl, rfl⟩⟩
  clear e0 e1 e4 e6 ht' hlo ho
  clear s
  rintro s ⟨e0, e1, e4, e6, ht', hlo, ho⟩
  obtain ⟨tw, htw⟩ : ∃ tw, tw = twL fun h => (atH ht h P : Int) := ⟨_, rfl⟩
  rw [← htw] at ho
  have twl : tw.length = 12 := by rw [htw, twL_len]
  obtain ⟨i, hi⟩ : ∃ i, i = atH ht 0 P := ⟨_, rfl⟩
  rw [← hi] at e6
  obtain ⟨A, B, s1, s2, s3⟩ : ∃ A B, 0 :: P = A ++ i :: B ∧ 0 < ht i ∧ ∀ j ∈ B, ¬ 0 < ht j := by
    rcases last_cases ht 0 P 0 with ⟨k1, k2⟩ | ⟨a, b', k1, k2, k3⟩
    · rw [hi]; unfold atH; rw [k2]; exact ⟨[], P, rfl, by rw [L.h0]; omega, k1⟩
    · rw [hi]; unfold atH; exact ⟨0 :: a, b', by rw [List.cons_append, ← k1], k3, k2⟩
  have hic := hmem i (split_mem s1)
  have x1 := xn i 0 hic (by omega)
  rw [L.at_ C s1 (by omega) s2, nxt_none s3, nxt_zero (fun j hj => (L.hp j (by rw [C.app]; simp [hj])).1)] at x1
  obtain ⟨at_, hat⟩ : ∃ at_, at_ = S.headD 0 := ⟨_, rfl⟩
  rw [← hat] at x1
  have hsc : setCells (ints .i64 tw) 0 (ints .i64 tw) = ints .i64 tw := by simp [setCells]
  have h12 : List.take 12 (ints .i64 tw) = ints .i64 tw := List.take_of_length_le (by simp [twl])
  refine ToS.free (ds := [some 52, some 53, some 54, some 55, some 56, some 57, some 58, some 59, some 60, some 61, none, some 5]) (l := [_, _, _, _, _, _, _, _, _, _, _, _]) rfl rfl rfl [.agg (ints .i64 tw), .ptr (b + 1) 0 0, .ptr (b + 1) 0 0, .ptr (b + 1) 0 0, .ref b nv 0 c 14, .int .i64 i, .ptr b nv (i * 14), .ptr b nv (i * 14 + 2), .ptr b nv (i * 14 + 2), .int .i64 at_, .undef, .int .i64 at_] (fun _ => ([], O tw, n)) fit.mixed T_Order_ok (by kernel_rfl) (by rw [ht', ho, hlo]) ?_ ?_
  · simp only [FreeD, finD]
    refine ⟨?_, ?_, ?_, ?_, ?_, ?_, ?_, ?_, ?_, ?_, ?_, ?_, trivial⟩
    all_goals (intro Lb _ _ _; simp -implicitDefEqProofs (disch := omega) [e0, e1, e4, e6, ob, oh, on, os, twl, h12, hsc, hic, x1, of_get x1])
  · refine ToS.of fit.mixed T_Order_ok (by kernel_rfl) ?_
    simp -implicitDefEqProofs (disch := omega) [finD, e4, ob, twl, h12]
    rw [if_neg (by omega)]
    exact goal _ (by rw [htw, hat])

end Go.Proofs.Ytdfcbophcfjakaa.B
set_option maxRecDepth 20000
set_option maxHeartbeats 1000000
namespace Go.Proofs.Ytdfcbophcfjakaa.B
open Go Go.Ab
/-! nodes in memory; what a put does to towers -/
structure NX (X : List V) (c : Nat) (f : Nat → Nd) : Prop where
  xl : X.length = c * 14
  xk : ∀ i, i < c → X[i * 14]? = some (f i).kv
  xv : ∀ i, i < c → X[i * 14 + 1]? = some (.int .i64 (f i).val)
  xn : ∀ i h, i < c → h < 12 → X[i * 14 + 2 + h]? = some (.int .i64 ((f i).nx h))
theorem setC_get {X : List V} {p q : Nat} {v : V} (hp : p < X.length) : (setCells X p [v])[q]? = if q = p then some v else X[q]? := by
  have e : setCells X p [v] = X.set p v := by
    unfold setCells
    rw [List.set_eq_take_append_cons_drop, if_pos hp]; simp
  rw [e, List.getElem?_set]
  by_cases h : p = q
  · subst h; simp [hp]
  · rw [if_neg h, if_neg (fun z => h z.symm)]
theorem setC_len {X : List V} {p : Nat} {v : V} (hp : p < X.length) : (setCells X p [v]).length = X.length := by
  have e : setCells X p [v] = X.set p v := by
    unfold setCells
    rw [List.set_eq_take_append_cons_drop, if_pos hp]; simp
  rw [e, List.length_set]
theorem NX.setN {X : List V} {c : Nat} {f g : Nat → Nd} (H : NX X c f) {i h : Nat} {x : Int} (hi : i < c) (hh : h < 12) (hk : ∀ j, (g j).kv = (f j).kv ∧ (g j).val = (f j).val) (hn : ∀ j k, (g j).nx k = if j = i ∧ k = h then x else (f j).nx k) : NX (setCells X (i * 14 + 2 + h) [.int .i64 x]) c g := by
  have hp : i * 14 + 2 + h < X.length := by rw [H.xl]; omega
  refine ⟨by rw [setC_len hp]; exact H.xl, fun j hj => ?_, fun j hj => ?_, fun j k hj hkk => ?_⟩
  · rw [setC_get hp, if_neg (by omega), (hk j).1]; exact H.xk j hj
  · rw [setC_get hp, if_neg (by omega), (hk j).2]; exact H.xv j hj
  · rw [setC_get hp, hn j k]
    by_cases e : j = i ∧ k = h
    · rw [if_pos (by omega), if_pos e]
    · rw [if_neg (by omega), if_neg e]; exact H.xn j k hj hkk
theorem NX.setV {X : List V} {c : Nat} {f g : Nat → Nd} (H : NX X c f) {i : Nat} {x : Int} (hi : i < c) (hk : ∀ j, (g j).kv = (f j).kv ∧ (g j).nx = (f j).nx) (hn : ∀ j, (g j).val = if j = i then x else (f j).val) : NX (setCells X (i * 14 + 1) [.int .i64 x]) c g := by
  have hp : i * 14 + 1 < X.length := by rw [H.xl]; omega
  refine ⟨by rw [setC_len hp]; exact H.xl, fun j hj => ?_, fun j hj => ?_, fun j k hj hkk => ?_⟩
  · rw [setC_get hp, if_neg (by omega), (hk j).1]; exact H.xk j hj
  · rw [setC_get hp, hn j]
    by_cases e : j = i
    · subst e; rw [if_pos rfl, if_pos rfl]
    · rw [if_neg (by omega), if_neg e]; exact H.xv j hj
  · rw [setC_get hp, if_neg (by omega), (hk j).2]; exact H.xn j k hj hkk
/-- One node more. -/
theorem NX.snoc {X : List V} {c : Nat} {f g : Nat → Nd} (H : NX X c f) {kv : V} {v : Int} {t : Nat → Int} (h1 : ∀ j, j < c → g j = f j) (h2 : (g c).kv = kv) (h3 : (g c).val = v) (h4 : ∀ h, h < 12 → (g c).nx h = t h) : NX (X ++ (kv :: .int .i64 v :: ints .i64 (twL t))) (c + 1) g := by
  have hl := H.xl
  have old : ∀ q, q < c * 14 → (X ++ (kv :: .int .i64 v :: ints .i64 (twL t)))[q]? = X[q]? := fun q hq => List.getElem?_append_left (by omega)
  have new : ∀ q, (X ++ (kv :: .int .i64 v :: ints .i64 (twL t)))[c * 14 + q]? = (kv :: .int .i64 v :: ints .i64 (twL t))[q]? := fun q => by rw [List.getElem?_append_right (by omega), hl, Nat.add_sub_cancel_left]
  refine ⟨by simp [hl, twL_len]; omega, fun j hj => ?_, fun j hj => ?_, fun j k hj hk => ?_⟩
  · rcases Nat.lt_or_ge j c with q | q
    · rw [old _ (by omega), h1 j q]; exact H.xk j q
    · obtain rfl : j = c := by omega
      have := new 0
      rw [Nat.add_zero] at this
      rw [this, h2]; rfl
  · rcases Nat.lt_or_ge j c with q | q
    · rw [old _ (by omega), h1 j q]; exact H.xv j q
    · obtain rfl : j = c := by omega
      rw [new 1, h3]; rfl
  · rcases Nat.lt_or_ge j c with q | q
    · rw [old _ (by omega), h1 j q]; exact H.xn j k q hk
    · obtain rfl : j = c := by omega
      rw [Nat.add_assoc, new (2 + k), h4 k hk, show 2 + k = k + 1 + 1 by omega, List.getElem?_cons_succ, List.getElem?_cons_succ]
      have : (ints .i64 (twL t))[k]? = some (.int .i64 (nth (twL t) k)) := map_nth (by rw [twL_len]; exact hk)
      rw [this, twL_nth hk]
theorem Lnk.nodup {c : Nat} {f : Nat → Nd} {ord : List Nat} {ht : Nat → Nat} (L : Lnk c f ord ht) : (0 :: ord).Nodup := by
  rw [List.nodup_cons]
  refine ⟨fun h => by have := (L.mem 0 h).1; omega, L.srt.imp fun {a b} h e => ?_⟩
  subst e
  rw [cmpZ_self] at h; omega
theorem nxt_congr {ht ht' : Nat → Nat} {h : Nat} : ∀ {l : List Nat}, (∀ j ∈ l, ht' j = ht j) → nxt ht' h l = nxt ht h l
  | [], _ => rfl
  | j :: l, e => by
    show (if h < ht' j then j else nxt ht' h l) = if h < ht j then j else nxt ht h l
    rw [e j (by simp), nxt_congr fun i hi => e i (by simp [hi])]
theorem atH_cases {c : Nat} {f : Nat → Nd} {ord P S : List Nat} {ht : Nat → Nat} {k : List Int} (L : Lnk c f ord ht) (C : Cut f ord k P S) (h : Nat) (hh : h < 12) : ∃ A B, 0 :: P = A ++ atH ht h P :: B ∧ h < ht (atH ht h P) ∧ ∀ j ∈ B, ¬ h < ht j := by
  unfold atH
  rcases last_cases ht h P 0 with ⟨k1, k2⟩ | ⟨a, b, k1, k2, k3⟩
  · rw [k2]; exact ⟨[], P, rfl, by rw [L.h0]; omega, k1⟩
  · exact ⟨0 :: a, b, by rw [List.cons_append, ← k1], k3, k2⟩
theorem at_next {c : Nat} {f : Nat → Nd} {ord P S : List Nat} {ht : Nat → Nat} {k : List Int} (L : Lnk c f ord ht) (C : Cut f ord k P S) (h : Nat) (hh : h < 12) : (f (atH ht h P)).nx h = (nxt ht h S : Int) := by
  obtain ⟨A, B, s1, s2, s3⟩ := atH_cases L C h hh
  rw [L.at_ C s1 hh s2, nxt_none s3]
theorem atH_lt {c : Nat} {f : Nat → Nd} {ord P S : List Nat} {ht : Nat → Nat} {k : List Int} (L : Lnk c f ord ht) (C : Cut f ord k P S) (h : Nat) (hh : h < 12) : atH ht h P < c := by
  obtain ⟨A, B, s1, -, -⟩ := atH_cases L C h hh
  rcases split_mem s1 with e | e
  · rw [e, L.len]; omega
  · exact (L.mem _ (by rw [C.app]; simp [e])).2
/-- The nodes after h rounds of a put. -/
def putF (f : Nat → Nd) (ht : Nat → Nat) (P : List Nat) (c : Nat) (m : Nat) : Nat → Nd := fun i => { f i with nx := fun k => if k < m ∧ i = atH ht k P then (c : Int) else (f i).nx k }
def putG (f : Nat → Nd) (ht : Nat → Nat) (P S : List Nat) (c : Nat) (m : Nat) (kv : V) (k : List Int) (v : Int) : Nat → Nd := fun i => if i = c then ⟨kv, k, v, fun h => if h < m then (nxt ht h S : Int) else 0⟩ else putF f ht P c m i
def putT (ht : Nat → Nat) (c m : Nat) : Nat → Nat := fun i => if i = c then m else ht i
theorem all_gt {c : Nat} {f : Nat → Nd} {ord P S : List Nat} {ht : Nat → Nat} {k : List Int} (L : Lnk c f ord ht) (C : Cut f ord k P S) (hno : ∀ j l, S = j :: l → (f j).key ≠ k) : ∀ j ∈ S, cmpZ k (f j).key < 0 := by
  have hs := L.srt
  rw [C.app, List.pairwise_append] at hs
  have hS := hs.2.1
  have hh := C.hi
  clear hs
  cases S with
  | nil => simp
  | cons j l =>
    rw [List.pairwise_cons] at hS
    have h1 : cmpZ k (f j).key < 0 := by
      have := hh j (by simp)
      rcases cmpZ_vals (f j).key k with q | q | q
      · omega
      · exact absurd (cmpZ_zero q) (hno j l rfl)
      · have := cmpZ_swap (f j).key k
        omega
    intro i hi
    rcases List.mem_cons.1 hi with rfl | hi
    · exact h1
    · exact cmpZ_trans h1 (hS.1 i hi)
/-- A new node in its place. -/
theorem Lnk.put {c : Nat} {f : Nat → Nd} {ord P S : List Nat} {ht : Nat → Nat} {k : List Int} (L : Lnk c f ord ht) (C : Cut f ord k P S) (hno : ∀ j l, S = j :: l → (f j).key ≠ k) {m : Nat} (hm1 : 1 ≤ m) (hm2 : m ≤ 12) {kv : V} (hk : ofInts .u8 kv = some k) (h8 : b8 k = true) (hl : k.length < 140737488355300) (v : Int) :
    Lnk (c + 1) (putG f ht P S c m kv k v) (P ++ c :: S) (putT ht c m) := by
  have hnd := L.nodup
  have hc : ∀ i ∈ ord, i ≠ c := fun i hi e => by have := (L.mem i hi).2; omega
  have hc0 : (0 : Nat) ≠ c := by have := L.len; omega
  have hcP : ∀ i ∈ P, i ≠ c := fun i hi => hc i (by rw [C.app]; simp [hi])
  have hcS : ∀ i ∈ S, i ≠ c := fun i hi => hc i (by rw [C.app]; simp [hi])
  have gF : ∀ i, i ≠ c → putG f ht P S c m kv k v i = putF f ht P c m i := fun i h => if_neg h
  have tF : ∀ i, i ≠ c → putT ht c m i = ht i := fun i h => if_neg h
  have gC : putG f ht P S c m kv k v c = ⟨kv, k, v, fun h => if h < m then (nxt ht h S : Int) else 0⟩ := if_pos rfl
  have tC : putT ht c m c = m := if_pos rfl
  have memO : ∀ i, i ∈ P ++ c :: S → i ≠ c → i ∈ ord := fun i hi h => by
    rw [C.app]
    rw [List.mem_append, List.mem_cons] at hi
    rw [List.mem_append]
    rcases hi with hi | hi | hi
    · exact .inl hi
    · exact absurd hi h
    · exact .inr hi
  have keyF : ∀ i, i ≠ c → (putG f ht P S c m kv k v i).key = (f i).key := fun i h => by rw [gF i h]; rfl
  have keyC : (putG f ht P S c m kv k v c).key = k := by rw [gC]
  refine ⟨by rw [L.len, C.app]; simp; omega, fun i hi => ?_, by rw [tF 0 hc0]; exact L.h0, fun i hi => ?_, ?_, ?_, fun i hi => ?_⟩
  · by_cases e : i = c
    · subst e; have := L.len; omega
    · have := L.mem i (memO i hi e); omega
  · by_cases e : i = c
    · subst e; rw [tC]; exact ⟨hm1, hm2⟩
    · rw [tF i e]; exact L.hp i (memO i hi e)
  · intro A i B e h hh
    rw [← List.cons_append, List.append_eq_append_iff] at e
    have nS : ∀ l : List Nat, (∀ j ∈ l, j ≠ c) → nxt (putT ht c m) h l = nxt ht h l := fun l hl => nxt_congr fun j hj => tF j (hl j hj)
    have mid : i = c → B = S → (putG f ht P S c m kv k v i).nx h = if h < putT ht c m i then (nxt (putT ht c m) h B : Int) else 0 := fun e1 e2 => by
      subst e1; subst e2
      rw [gC, tC, nS B hcS]
    have right : ∀ A2, S = A2 ++ i :: B → (putG f ht P S c m kv k v i).nx h = if h < putT ht c m i then (nxt (putT ht c m) h B : Int) else 0 := fun A2 e2 => by
      have hiS : i ∈ S := by rw [e2]; simp
      have hic := hcS i hiS
      rw [gF i hic, tF i hic, nS B (fun j hj => hcS j (by rw [e2]; simp [hj]))]
      have hne : i ≠ atH ht h P := by
        intro q
        obtain ⟨A3, B3, s1, -, -⟩ := atH_cases L C h hh
        have h1 : i ∈ 0 :: P := by rw [s1, ← q]; simp
        have h2 : (0 :: P ++ S).Nodup := by rw [List.cons_append, ← C.app]; exact hnd
        exact (List.nodup_append.1 h2).2.2 i h1 i hiS rfl
      have := L.nx (0 :: P ++ A2) i B (by rw [C.app, e2]; simp) h hh
      rw [← this]
      show (if h < m ∧ i = atH ht h P then (c : Int) else (f i).nx h) = _
      rw [if_neg (fun q => hne q.2)]
    have left : ∀ B1, 0 :: P = A ++ i :: B1 → B = B1 ++ c :: S → (putG f ht P S c m kv k v i).nx h = if h < putT ht c m i then (nxt (putT ht c m) h B : Int) else 0 := fun B1 e1 e2 => by
      have hiP := split_mem e1
      have hic : i ≠ c := by
        rcases hiP with q | q
        · rw [q]; exact hc0
        · exact hcP i q
      rw [gF i hic, tF i hic]
      have hold := L.nx A i (B1 ++ S) (by rw [C.app, ← List.cons_append, e1]; simp) h hh
      have hBc : ∀ j ∈ B1, j ≠ c := fun j hj => hcP j (rest_mem e1 hj)
      show (if h < m ∧ i = atH ht h P then (c : Int) else (f i).nx h) = _
      obtain ⟨A3, B3, s1, s2, s3⟩ := atH_cases L C h hh
      have hndP : (0 :: P).Nodup := by
        have h2 : (0 :: P ++ S).Nodup := by rw [List.cons_append, ← C.app]; exact hnd
        exact (List.nodup_append.1 h2).1
      rcases first_cases ht h B1 with hno1 | ⟨a, j, b', hB, ha, hj⟩
      · -- none behind it in front of the new one
        have hn' : nxt (putT ht c m) h B = if h < m then c else nxt ht h S := by
          rw [e2, nxt_none (fun j hj => by rw [tF j (hBc j hj)]; exact hno1 j hj)]
          show (if h < putT ht c m c then c else nxt (putT ht c m) h S) = _
          rw [tC, nS S hcS]
        rw [hn']
        by_cases hi : h < ht i
        · have hia : i = atH ht h P := by
            have e3 : A ++ i :: B1 = A3 ++ atH ht h P :: B3 := by rw [← e1, ← s1]
            rw [List.append_eq_append_iff] at e3
            rcases e3 with ⟨w, w1, w2⟩ | ⟨w, w1, w2⟩
            · cases w with
              | nil => simp at w2; exact w2.1
              | cons x w =>
                simp at w2
                exact absurd s2 (hno1 _ (by rw [w2.2]; simp))
            · cases w with
              | nil => simp at w2; exact w2.1.symm
              | cons x w =>
                simp at w2
                exact absurd hi (s3 i (by rw [w2.2]; simp))
          rw [if_pos hi] at hold ⊢
          by_cases hm : h < m
          · rw [if_pos ⟨hm, hia⟩, if_pos hm]
          · rw [if_neg (fun q => hm q.1), if_neg hm, hold, nxt_none hno1]
        · rw [if_neg hi] at hold ⊢
          rw [if_neg (fun q => hi (by rw [q.2]; exact s2)), hold]
      · -- one behind it, as before
        have hn' : nxt (putT ht c m) h B = nxt ht h (B1 ++ S) := by
          rw [e2, hB, List.append_assoc, List.append_assoc, nxt_none (fun x hx => by rw [tF x (hBc x (by rw [hB]; simp [hx]))]; exact ha x hx), nxt_none ha]
          show (if h < putT ht c m j then j else _) = if h < ht j then j else _
          rw [tF j (hBc j (by rw [hB]; simp)), if_pos hj, if_pos hj]
        rw [hn']
        have hia : i ≠ atH ht h P := by
          intro q
          have e3 : A ++ i :: B1 = A3 ++ i :: B3 := by rw [← e1, s1, ← q]
          have : B1 = B3 := by
            have n1 : i ∉ A := fun z => by
              rw [e1] at hndP
              exact (List.nodup_append.1 hndP).2.2 i z i (by simp) rfl
            have n3 : i ∉ A3 := fun z => by
              rw [s1, ← q] at hndP
              exact (List.nodup_append.1 hndP).2.2 i z i (by simp) rfl
            rw [List.append_eq_append_iff] at e3
            rcases e3 with ⟨w, w1, w2⟩ | ⟨w, w1, w2⟩
            · cases w with
              | nil => simp at w2; exact w2
              | cons x w => simp at w2; exact absurd (by rw [w1, ← w2.1]; simp) n3
            · cases w with
              | nil => simp at w2; exact w2.symm
              | cons x w => simp at w2; exact absurd (by rw [w1, ← w2.1]; simp) n1
          exact s3 j (by rw [← this, hB]; simp) hj
        rw [if_neg (fun q => hia q.2), hold]
    rcases e with ⟨w, w1, w2⟩ | ⟨w, w1, w2⟩
    · cases w with
      | nil => simp at w2; exact mid w2.1.symm w2.2.symm
      | cons x w => simp at w2; exact right w w2.2
    · cases w with
      | nil => simp at w2; exact mid w2.1 w2.2
      | cons x w => simp at w2; obtain ⟨rfl, w2⟩ := w2; exact left w w1 w2
  · have hs := L.srt
    rw [C.app, List.pairwise_append] at hs
    rw [List.pairwise_append]
    refine ⟨?_, ?_, ?_⟩
    · refine hs.1.imp_of_mem fun {a b} ha hb h => ?_
      rw [keyF a (hcP a ha), keyF b (hcP b hb)]; exact h
    · rw [List.pairwise_cons]
      refine ⟨fun a ha => ?_, hs.2.1.imp_of_mem fun {a b} ha hb h => ?_⟩
      · rw [keyC, keyF a (hcS a ha)]; exact all_gt L C hno a ha
      · rw [keyF a (hcS a ha), keyF b (hcS b hb)]; exact h
    · intro a ha b hb
      rw [keyF a (hcP a ha)]
      rcases List.mem_cons.1 hb with rfl | hb
      · rw [keyC]; exact C.lo a ha
      · rw [keyF b (hcS b hb)]; exact hs.2.2 a ha b hb
  · by_cases e : i = c
    · subst e; rw [gC]; exact ⟨hk, h8, hl⟩
    · rw [gF i e]; exact L.key i (memO i hi e)

end Go.Proofs.Ytdfcbophcfjakaa.B
set_option maxRecDepth 20000
set_option maxHeartbeats 1000000
namespace Go.Proofs.Ytdfcbophcfjakaa.B
open Go Go.Ab
/-! a list by its keys and values -/
def skX (objs : List AO) (l : V) : Option (Nat × Nat × Nat × V × Int × Int × List V) := match l with
  | .ptr h 0 0 => match Ab.getObj objs h 0 with
    | some [.ref b nv 0 c 14, hv, .int .i64 tk, .int .i64 hg] => match Ab.getObj objs b nv with
      | some X => if h = b + 1 ∧ X.length = c * 14 then some (b, nv, c, hv, tk, hg, X) else none
      | none => none
    | _ => none
  | _ => none
theorem skX_of {objs : List AO} {b nv c : Nat} {hv : V} {tk hg : Int} {X : List V} (h1 : objs[b + 1]? = some (.cells [.ref b nv 0 c 14, hv, .int .i64 tk, .int .i64 hg] 0)) (h2 : objs[b]? = some (.cells X nv)) (h3 : X.length = c * 14) : skX objs (.ptr (b + 1) 0 0) = some (b, nv, c, hv, tk, hg, X) := by
  simp [skX, getObj_of h1, getObj_of h2, h3]
theorem skX_inv {objs : List AO} {l : V} {b nv c : Nat} {hv : V} {tk hg : Int} {X : List V} (h : skX objs l = some (b, nv, c, hv, tk, hg, X)) : l = .ptr (b + 1) 0 0 ∧ Ab.getObj objs (b + 1) 0 = some [.ref b nv 0 c 14, hv, .int .i64 tk, .int .i64 hg] ∧ Ab.getObj objs b nv = some X ∧ X.length = c * 14 := by
  unfold skX at h
  split at h
  case h_2 => cases h
  split at h
  case h_2 => cases h
  rename_i hg1
  split at h
  case h_2 => cases h
  rename_i hg2
  split at h
  case isFalse => cases h
  rename_i hc
  cases h
  obtain ⟨rfl, hx⟩ := hc
  exact ⟨rfl, hg1, hg2, hx⟩
theorem SkI.toX {O : List AO} {b c : Nat} {f : Nat → Nd} {ord : List Nat} {ht : Nat → Nat} {hs : List Int} {tk : Nat} {hg : Int} {nv : Nat} {hv : V} {X : List V} (I : SkI O b c f ord ht hs tk hg nv hv X) : skX O (.ptr (b + 1) 0 0) = some (b, nv, c, hv, (tk : Int), hg, X) := skX_of I.head I.nodes I.xl
theorem SkI.nodeX {O : List AO} {b c : Nat} {f : Nat → Nd} {ord : List Nat} {ht : Nat → Nat} {hs : List Int} {tk : Nat} {hg : Int} {nv : Nat} {hv : V} {X : List V} (I : SkI O b c f ord ht hs tk hg nv hv X) : NX X c f := ⟨I.xl, I.xk, I.xv, I.xn⟩
theorem Lnk.step {c : Nat} {f : Nat → Nd} {ord : List Nat} {ht : Nat → Nat} (L : Lnk c f ord ht) {A B : List Nat} {i : Nat} (e : 0 :: ord = A ++ i :: B) : (f i).nx 0 = (B.headD 0 : Nat) := by
  have hi : 0 < ht i := by
    have : i ∈ 0 :: ord := by rw [e]; simp
    rcases List.mem_cons.1 this with q | q
    · rw [q, L.h0]; omega
    · exact (L.hp i q).1
  rw [L.nx A i B e 0 (by omega), if_pos hi, nxt_zero fun j hj => ?_]
  have : j ∈ ord := by
    cases A with
    | nil => cases e; exact hj
    | cons x A => cases e; simp [hj]
  exact (L.hp j this).1
theorem order_uniq {c : Nat} {f f' : Nat → Nd} {ord ord' : List Nat} {ht ht' : Nat → Nat} (L : Lnk c f ord ht) (L' : Lnk c f' ord' ht') (hn : ∀ i, i < c → (f i).nx 0 = (f' i).nx 0) : ord = ord' := by
  have key : ∀ (B B' A A' : List Nat) (i : Nat), 0 :: ord = A ++ i :: B → 0 :: ord' = A' ++ i :: B' → B = B' := by
    intro B
    induction B with
    | nil =>
      intro B' A A' i e e'
      have h1 := L.step e
      have h2 := L'.step e'
      have hic : i < c := by
        have : i ∈ 0 :: ord := by rw [e]; simp
        rcases List.mem_cons.1 this with q | q
        · rw [q, L.len]; omega
        · exact (L.mem i q).2
      rw [hn i hic, h2] at h1
      cases B' with
      | nil => rfl
      | cons j B' =>
        have hj : j ∈ ord' := by
          cases A' with
          | nil => cases e'; simp
          | cons x A' => cases e'; simp
        have := (L'.mem j hj).1
        simp at h1; omega
    | cons j B ih =>
      intro B' A A' i e e'
      have h1 := L.step e
      have h2 := L'.step e'
      have hic : i < c := by
        have : i ∈ 0 :: ord := by rw [e]; simp
        rcases List.mem_cons.1 this with q | q
        · rw [q, L.len]; omega
        · exact (L.mem i q).2
      rw [hn i hic, h2] at h1
      have hj : j ∈ ord := by
        cases A with
        | nil => cases e; simp
        | cons x A => cases e; simp
      have hj0 := (L.mem j hj).1
      cases B' with
      | nil => simp at h1; omega
      | cons j' B' =>
        have hjj : j' = j := by simp at h1; omega
        subst hjj
        rw [ih B' (A ++ [i]) (A' ++ [i]) j' (by rw [e]; simp) (by rw [e']; simp)]
  exact key ord ord' [] [] 0 rfl rfl
theorem told_inj {v : V} {a b : List Int} (h : ofInts .u8 v = some a) (k : ofInts .u8 v = some b) : a = b := by rw [h] at k; exact Option.some.inj k
abbrev Kvs := List (List Int × Int)
def kvs (f : Nat → Nd) (ord : List Nat) : Kvs := ord.map fun i => ((f i).key, (f i).val)
theorem SkI.uniq {O : List AO} {b c c' : Nat} {f f' : Nat → Nd} {ord ord' : List Nat} {ht ht' : Nat → Nat} {hs hs' : List Int} {tk tk' : Nat} {hg hg' : Int} {nv nv' : Nat} {hv hv' : V} {X X' : List V} (I : SkI O b c f ord ht hs tk hg nv hv X) (I' : SkI O b c' f' ord' ht' hs' tk' hg' nv' hv' X') : kvs f ord = kvs f' ord' ∧ hs = hs' ∧ tk = tk' ∧ hg = hg' := by
  have h1 := I.head
  rw [I'.head] at h1
  simp only [Option.some.injEq, AO.cells.injEq, List.cons.injEq, V.ref.injEq, V.int.injEq, and_true, true_and] at h1
  obtain ⟨⟨rfl, rfl⟩, rfl, h3, rfl⟩ := h1
  have h3 : tk' = tk := by omega
  subst h3
  have h2 := I.nodes
  rw [I'.nodes] at h2
  simp only [Option.some.injEq, AO.cells.injEq, and_true] at h2
  subst h2
  have hh : hs = hs' := by
    have q := I.hts.1
    rw [I'.hts.1] at q
    exact (Option.some.inj q).symm
  subst hh
  have ho : ord = ord' := order_uniq I.lnk I'.lnk fun i hi => by
    have q := I.xn i 0 hi (by omega)
    rw [I'.xn i 0 hi (by omega)] at q
    simp only [Option.some.injEq, V.int.injEq, true_and] at q
    exact q.symm
  subst ho
  refine ⟨?_, rfl, rfl, rfl⟩
  unfold kvs
  refine List.map_congr_left fun i hi => ?_
  have hic := (I.lnk.mem i hi).2
  have k1 := I.xk i hic
  rw [I'.xk i hic] at k1
  have k2 := I.xv i hic
  rw [I'.xv i hic] at k2
  simp only [Option.some.injEq, V.int.injEq, true_and] at k1 k2
  have e1 := (I.lnk.key i hi).1
  have e2 := (I'.lnk.key i hi).1
  rw [k1] at e2
  rw [told_inj e1 e2, k2]
/-- A list that holds these keys and values. -/
structure SkM (O : List AO) (b : Nat) (m : Kvs) (hs : List Int) (tk : Nat) (hg : Int) : Prop where
  ex : ∃ c f ord ht nv hv X, SkI O b c f ord ht hs tk hg nv hv X ∧ m = kvs f ord
theorem SkM.uniq {O : List AO} {b : Nat} {m m' : Kvs} {hs hs' : List Int} {tk tk' : Nat} {hg hg' : Int} (h : SkM O b m hs tk hg) (h' : SkM O b m' hs' tk' hg') : m = m' ∧ hs = hs' ∧ tk = tk' ∧ hg = hg' := by
  obtain ⟨c, f, ord, ht, nv, hv, X, I, rfl⟩ := h.ex
  obtain ⟨c', f', ord', ht', nv', hv', X', I', rfl⟩ := h'.ex
  exact I.uniq I'
def lessK (k : List Int) (e : List Int × Int) : Bool := decide (cmpZ e.1 k < 0)
def lowM (m : Kvs) (k : List Int) : Kvs := m.takeWhile (lessK k)
def highM (m : Kvs) (k : List Int) : Kvs := m.dropWhile (lessK k)
/-- Is the next one of this key? -/
def isM (m : Kvs) (k : List Int) : Bool := match highM m k with | e :: _ => decide (e.1 = k) | [] => false
def putM (m : Kvs) (k : List Int) (v : Int) : Kvs := lowM m k ++ (k, v) :: (if isM m k = true then (highM m k).tail else highM m k)
theorem tw_split {p : List Int × Int → Bool} : ∀ {a b : Kvs}, (∀ x ∈ a, p x = true) → (∀ x ∈ b, p x = false) → (a ++ b).takeWhile p = a ∧ (a ++ b).dropWhile p = b
  | [], b, _, hb => by
    cases b with
    | nil => exact ⟨rfl, rfl⟩
    | cons x b => have := hb x (by simp); exact ⟨by simp [this], by simp [this]⟩
  | x :: a, b, ha, hb => by
    have h1 := ha x (by simp)
    obtain ⟨q1, q2⟩ := tw_split (a := a) (b := b) (fun y hy => ha y (by simp [hy])) hb
    exact ⟨by simp [h1, q1], by simp [h1, q2]⟩
theorem cut_kvs {f : Nat → Nd} {ord P S : List Nat} {k : List Int} (C : Cut f ord k P S) : lowM (kvs f ord) k = kvs f P ∧ highM (kvs f ord) k = kvs f S := by
  have e : kvs f ord = kvs f P ++ kvs f S := by unfold kvs; rw [C.app, List.map_append]
  unfold lowM highM
  rw [e]
  refine tw_split (fun x hx => ?_) (fun x hx => ?_)
  · obtain ⟨i, hi, rfl⟩ := List.mem_map.1 hx
    exact decide_eq_true (C.lo i hi)
  · obtain ⟨i, hi, rfl⟩ := List.mem_map.1 hx
    exact decide_eq_false (C.hi i hi)

end Go.Proofs.Ytdfcbophcfjakaa.B
set_option maxRecDepth 20000
set_option maxHeartbeats 1000000
namespace Go.Proofs.Ytdfcbophcfjakaa.B
open Go Go.Ab
/-! is, take, Len, Height -/
noncomputable def k_is : Ab.Spec := con3 some (ofInt .i64) some fun l a kv objs => match skX objs l with
  | some (_, _, c, _, _, _, X) => if a = 0 then some (.bool false, none) else match X[a.toNat * 14]? with
    | some nkv => match ofInts .u8 nkv, ofIntsR .u8 objs kv with
      | some x, some k => if 0 < a ∧ a < c ∧ b8 x = true ∧ b8 k = true then some (.bool (decide (x = k)), none) else none
      | _, _ => none
    | none => none
  | none => none
noncomputable def T_is : CallF := withF T_find 37 k_is
theorem T_is_ok : CallOk Try.prog T_is := con_of (A := annOf [] [] [] false []) fit T_find_ok (fn := Try.f37) (by kernel_rfl) (by kernel_rfl) (by
  intro args objs r h0
  have c_EqualH : ∀ a o, T_find 43 a o = k_EqualH a o := fun _ _ => rfl
  obtain ⟨l, _, kv, _, a, _, rfl, hl, ha, hk, hR⟩ := con3_inv h0
  cases hl; cases hk
  obtain rfl := ofInt_inv ha
  split at hR
  case h_2 => cases hR
  rename_i b nv c hv tk hg X hX
  obtain ⟨rfl, g1, g2, g3⟩ := skX_inv hX
  refine .go _ rfl rfl ?_
  split at hR
  · rename_i h0
    subst h0
    cases hR
    simp -implicitDefEqProofs (disch := omega)
  split at hR
  case h_2 => cases hR
  rename_i nkv hnk
  split at hR
  case h_2 => cases hR
  rename_i x k hx hk
  split at hR
  case isFalse => cases hR
  rename_i hc
  cases hR
  obtain ⟨c1, c2, c3, c4⟩ := hc
  obtain ⟨i, rfl⟩ := Int.eq_ofNat_of_zero_le (show 0 ≤ a by omega)
  rw [Int.toNat_natCast] at hnk
  have hic : i < c := by omega
  have hi0 : 0 < i := by omega
  obtain ⟨nd, -⟩ := bs hx
  obtain ⟨-, kd, -⟩ := bsR hk
  have ke := equalR (ofIntsR_of (objs := objs) hx) hk c3 c4
  simp -implicitDefEqProofs (disch := omega) [g1, g2, g3, hic, hi0, c1, hnk, of_get hnk, nd, kd, c_EqualH, ke])
noncomputable def k_Len18 : Ab.Spec := con1 some fun l objs => match skX objs l with | some (_, _, c, _, _, _, _) => bnd c 4000001 (some (.int .i64 ((c : Int) - 1), none)) | none => none
noncomputable def T_Len18 : CallF := withF T_is 10 k_Len18
theorem T_Len18_ok : CallOk Try.prog T_Len18 := con_of (A := annOf [] [] [] false []) fit T_is_ok (fn := Try.f10) (by kernel_rfl) (by kernel_rfl) (by
  intro args objs r h0
  obtain ⟨l, _, rfl, hl, hR⟩ := con1_inv h0
  cases hl
  split at hR
  case h_2 => cases hR
  rename_i b nv c hv tk hg X hX
  obtain ⟨hc, hR⟩ := bnd_inv hR
  cases hR
  obtain ⟨rfl, g1, g2, g3⟩ := skX_inv hX
  have w : IntKind.i64.wrap ((c : Int) - 1) = (c : Int) - 1 := wrap_small (by omega) (by omega)
  refine .go _ rfl rfl ?_
  simp -implicitDefEqProofs (disch := omega) [g1, g2, w])
noncomputable def k_Hgt : Ab.Spec := con1 some fun l objs => match skX objs l with | some (_, _, _, _, _, hg, _) => some (.int .i64 hg, none) | none => none
noncomputable def T_Hgt : CallF := withF T_Len18 11 k_Hgt
theorem T_Hgt_ok : CallOk Try.prog T_Hgt := con_of (A := annOf [] [] [] false []) fit T_Len18_ok (fn := Try.f11) (by kernel_rfl) (by kernel_rfl) (by
  intro args objs r h0
  obtain ⟨l, _, rfl, hl, hR⟩ := con1_inv h0
  cases hl
  split at hR
  case h_2 => cases hR
  rename_i b nv c hv tk hg X hX
  cases hR
  obtain ⟨rfl, g1, g2, g3⟩ := skX_inv hX
  refine .go _ rfl rfl ?_
  simp -implicitDefEqProofs (disch := omega) [g1, g2])
theorem is8 {objs : List AO} {v : V} {l : List Int} (h : ofIntsR .i64 objs v = some l) : demote v = v ∧ lenV Try.prog 22 v = some (.int .i64 l.length) ∧ (∀ (k : IntKind) (i : Nat), i < l.length → indexV Try.prog 22 v (.int k i) = some (ptAt v (ints .i64 l) i)) ∧ ∀ i, i < l.length → loadV Try.prog 3 objs (ptAt v (ints .i64 l) i) = some (.int .i64 (nth l i)) := by
  have w := bytesV h
  refine ⟨w.dem, w.size u22, fun k i hi => ?_, fun i hi => ?_⟩
  · have := w.idx (P := Try.prog) u22 z3 k i (by omega) (by omega)
    rwa [Int.toNat_natCast, Nat.mul_one] at this
  · have := w.get (P := Try.prog) (t := 3) (fun cs off => by simp) (map_nth (g := fun c : Int => V.int .i64 c) hi)
    simpa using this
noncomputable def k_take : Ab.Spec := con1 some fun l objs => match skX objs l with
  | some (b, nv, c, hv, tk, hg, _) => match ofIntsR .i64 objs hv with
    | some [] => some (.int .i64 1, none)
    | some (h :: hs) => if 0 ≤ tk ∧ tk < 4000001 ∧ (h :: hs).length < 140737488355328 ∧ (idOf hv ≠ some (b + 1)) then some (.int .i64 (nth (h :: hs) (tk.toNat % (h :: hs).length)), some (objs.set (b + 1) (.cells [.ref b nv 0 c 14, hv, .int .i64 (tk + 1), .int .i64 hg] 0), b + 1)) else none
    | none => none
  | none => none
noncomputable def T_take : CallF := withF T_Hgt 38 k_take
theorem T_take_ok : CallOk Try.prog T_take := con_of (A := annOf [] [] [] false []) fit T_Hgt_ok (fn := Try.f38) (by kernel_rfl) (by kernel_rfl) (by
  intro args objs r h0
  obtain ⟨l, _, rfl, hl, hR⟩ := con1_inv h0
  cases hl
  split at hR
  case h_2 => cases hR
  rename_i b nv c hv tk hg X hX
  obtain ⟨rfl, g1, g2, g3⟩ := skX_inv hX
  refine .go _ rfl rfl ?_
  split at hR
  case h_3 => cases hR
  · rename_i hh
    cases hR
    obtain ⟨hd, hn, -⟩ := is8 hh
    simp -implicitDefEqProofs (disch := omega) [g1, hn, hd]
  · rename_i h hs hh
    split at hR
    case isFalse => cases hR
    rename_i hc
    obtain ⟨t1, t2, t3, t4⟩ := hc
    cases hR
    obtain ⟨L, hL⟩ : ∃ L, L = h :: hs := ⟨_, rfl⟩
    rw [← hL] at hh t3 ⊢
    have hpos : 0 < L.length := by rw [hL]; simp
    obtain ⟨hd, hn, hx, hld⟩ := is8 hh
    obtain ⟨t, rfl⟩ := Int.eq_ofNat_of_zero_le t1
    rw [Int.toNat_natCast]
    have hlt := getObj_lt g1
    obtain ⟨O, hO⟩ : ∃ O, O = objs.set (b + 1) (.cells [.ref b nv 0 c 14, hv, .int .i64 ((t : Int) + 1), .int .i64 hg] 0) := ⟨_, rfl⟩
    have o1 : Ab.getObj O (b + 1) 0 = some [.ref b nv 0 c 14, hv, .int .i64 ((t : Int) + 1), .int .i64 hg] := by rw [hO]; exact getObj_set hlt
    have oh : ofIntsR .i64 O hv = some L := by
      rcases ofIntsR_inv hh with q | ⟨id, ver, off, cs, rfl, q1, q2, q3⟩
      · exact ofIntsR_of q
      · have hne : b + 1 ≠ id := fun z => t4 (by rw [z]; rfl)
        have hg2 : Ab.getObj O id ver = some cs := by rw [hO, getObj_set_ne hne]; exact q1
        simp only [ofIntsR, hg2, q2, ofCellsI_ints, Option.bind_some]
        rw [if_pos ⟨trivial, q3⟩]
    obtain ⟨-, -, hx2, hld2⟩ := is8 oh
    have hm : t % L.length < L.length := Nat.mod_lt _ hpos
    have tm : (t : Int).tmod L.length = ((t % L.length : Nat) : Int) := by rw [Int.tmod_eq_emod_of_nonneg (by omega)]; rfl
    obtain ⟨q, hq⟩ : ∃ q, q = t % L.length := ⟨_, rfl⟩
    rw [← hq] at hm tm ⊢
    have x1 := hx2 .i64 q hm
    have l1 := hld2 q hm
    have w1 : IntKind.i64.wrap ((t : Int) + 1) = (t : Int) + 1 := wrap_small (by omega) (by omega)
    have w2 : IntKind.i64.wrap (t : Int) = (t : Int) := wrap_small (by omega) (by omega)
    have hnz : ¬ (L.length : Int) = 0 := by omega
    have hnz2 : ¬ L.length = 0 := by omega
    have hnz3 : ¬ L = [] := fun z => by rw [z] at hpos; simp at hpos
    have hOs : objs.set (b + 1) (.cells (setCells [.ref b nv 0 c 14, hv, .int .i64 (t : Int), .int .i64 hg] 2 [.int .i64 ((t : Int) + 1)]) 0) = O := by rw [hO]; rfl
    have hlt2 : b + 1 < objs.length := hlt
    simp -implicitDefEqProofs (disch := omega) [g1, hn, hd, hnz, hnz2, hnz3, w1, hOs, o1, w2, tm, x1, l1, hlt2]
    rw [← hO]
    exact List.take_of_length_le (by rw [hO]; simp))

end Go.Proofs.Ytdfcbophcfjakaa.B

import Derived.Test.YtnbgmclbbkfhhaaDoorScTy
import Derived.Test.YtnbgmclbbkfhhaaDoorAb32
import Derived.Laws.BitsLemmas
set_option linter.unusedSimpArgs false
set_option linter.unusedVariables false
set_option linter.unusedSectionVars false
set_option maxRecDepth 20000
set_option maxHeartbeats 1000000
namespace Go.Proofs.YtnbgmclbbkfhhaaDoor.B
open Go Go.Ab
theorem fit : Fit Tryd.prog := fit_of (by kernel_rfl)
def Tnone : CallF := fun _ _ _ => none
theorem Tnone_ok : CallOk Tryd.prog Tnone := con_none
/-! slices of bytes that come in -/
theorem bs {v : V} {l : List Int} (h : ofInts .u8 v = some l) : demote v = v ∧ lenV Tryd.prog 59 v = some (.int .i64 l.length) ∧ (∀ k i, 0 ≤ i → i < (l.length : Int) → indexV Tryd.prog 59 v (.int k i) = some (.fptr (ints .u8 l) i.toNat)) ∧
    (∀ objs e, srcOf (.slice e) objs 1 v = some (ints .u8 l)) ∧ isDef v = true ∧ cellsOf v = [v] ∧ oneCell v = true ∧ ∀ b, Ab.noref b v = true := by
  have w := ofInts_inv h
  refine ⟨w.dem, w.size u59, fun k i h0 h1 => ?_, fun objs e => w.src (by simp) (by simp) objs e, w.isDef, w.cells, w.one, fun b => w.noref (by simp)⟩
  have := w.idx u59 z5 k i h0 h1
  rwa [Nat.mul_one] at this
theorem bcut {v : V} {l : List Int} (h : ofInts .u8 v = some l) (objs : List AO) (lo hi : Option V) (a b : Nat) (ha : boundV lo 0 = some a) (hb : boundV hi l.length = some b) (hab : a ≤ b) (hl : b ≤ l.length) :
    ∃ w, cutV Tryd.prog 59 objs v lo hi none = some w ∧ ofInts .u8 w = some ((l.take b).drop a) := by
  obtain ⟨w, h1, h2⟩ := (ofInts_inv h).cut u59 z5 objs lo hi a b ha hb hab hl
  refine ⟨w, h1, ?_⟩
  rw [Nat.mul_one, Nat.mul_one, ints_take, ints_drop] at h2
  exact h2.ofInts (by simp; omega)
theorem blit1 (c : Int) : listV Tryd.prog 59 1 [(0, .int .u8 c)] = some ([.int .u8 c], 1) := by simp [listV, fillV, zeros, setCells]
theorem blit0 : listV Tryd.prog 59 0 [] = some ([], 1) := by simp [listV, fillV, zeros]
/-- A row of bytes that is appended to; one that stands in an object. -/
def tokB (l : List Int) : V := .lst (.tok 0 1) (ints .u8 l) l.length
theorem getObj_last {objs : List AO} {cs : List V} {v : Nat} : Ab.getObj (objs ++ [.cells cs v]) objs.length v = some cs := by simp [Ab.getObj]
theorem getObj_last0 {objs : List AO} {cs : List V} {v : Nat} (n : Nat) (h : n = objs.length) : Ab.getObj (objs ++ [.cells cs v]) n v = some cs := by simp [Ab.getObj, h]
theorem set_last {objs : List AO} {a b : AO} : (objs ++ [a]).set objs.length b = objs ++ [b] := by simp
theorem take_last {objs : List AO} {a : AO} : (objs ++ [a]).take objs.length = objs := by simp
theorem getObj_two {objs : List AO} {a : AO} {cs : List V} {v : Nat} : Ab.getObj (objs ++ [a, .cells cs v]) (objs.length + 1) v = some cs := by simp [Ab.getObj]
theorem getObj_one {objs : List AO} {a : AO} {cs : List V} {v : Nat} : Ab.getObj (objs ++ [.cells cs v, a]) objs.length v = some cs := by simp [Ab.getObj]

noncomputable def k_Same : Ab.Spec := con2 (ofInts .u8) (ofInts .u8) fun a b _ => bnd a.length 140737488355328 (some (.bool (decide (a = b)), none))
noncomputable def T_Same : CallF := withF Tnone 49 k_Same
theorem T_Same_ok : CallOk Tryd.prog T_Same := con_of (A := annOf [] [] [] false []) fit Tnone_ok (fn := Tryd.f49) (by kernel_rfl) (by kernel_rfl) (by
  intro args objs r h0
  obtain ⟨v, w, a, b, rfl, ha, hb, hR⟩ := con2_inv h0
  obtain ⟨hl, hR⟩ := bnd_inv hR
  cases hR
  obtain ⟨vd, vn, vi, -⟩ := bs ha
  obtain ⟨wd, wn, wi, -⟩ := bs hb
  refine .go _ rfl rfl ?_
  by_cases hn : a.length = b.length
  · simp [vn, wn, hn]
    refine .up a.length (fun i s => s.env 0 = v ∧ s.env 1 = w ∧ s.env 5 = .int .i64 i ∧ s.toks = [] ∧ s.objs = objs ∧ s.low = objs.length ∧ ∀ j, j < i → nth a j = nth b j) (by simp) ?_
    rintro i s hi ⟨h0, h1, h5, ht, ho, hlo, hj⟩
    rcases Nat.lt_or_ge i a.length with h | h
    · by_cases he : nth a i = nth b i
      · have hf : (nth a i != nth b i) = false := by simpa using he
        have hs : ∀ j, j < i + 1 → nth a j = nth b j := fun j hj2 => by
          rcases Nat.lt_or_ge j i with h2 | h2
          · exact hj j h2
          · obtain rfl : j = i := by omega
            exact he
        simp (disch := omega) [h0, h1, h5, ht, ho, hlo, vn, wn, vi, wi, h, ints_nth, hf, wrap_small]
        exact hs
      · have hf : (nth a i != nth b i) = true := by simpa using he
        have hne : a ≠ b := fun q => he (by rw [q])
        simp (disch := omega) [h0, h1, h5, ht, ho, hlo, vn, wn, vi, wi, h, ints_nth, hf, hne]
    · have hab : a = b := ext_nth hn fun j h2 => hj j (by omega)
      have hnl : ¬ i < b.length := by omega
      simp [h0, h1, h5, ht, ho, hlo, vn, wn, hab, hnl]
  · have hf : ((a.length : Int) != (b.length : Int)) = true := by simp only [bne_iff_ne, ne_eq]; omega
    have hne : a ≠ b := fun q => hn (by rw [q])
    simp [vn, wn, hf, hne])

noncomputable def k_Copy : Ab.Spec := con1 (ofInts .u8) fun l _ => bnd l.length 140737488355300 (some (.lst (.fresh 1 true) (ints .u8 l) l.length, none))
noncomputable def T_Copy : CallF := withF T_Same 48 k_Copy
theorem T_Copy_ok : CallOk Tryd.prog T_Copy := con_of (A := annOf [] [5,18] [] false []) fit T_Same_ok (fn := Tryd.f48) (by kernel_rfl) (by kernel_rfl) (by
  intro args objs r h0
  obtain ⟨v, l, rfl, ha, hR⟩ := con1_inv h0
  obtain ⟨hl, hR⟩ := bnd_inv hR
  cases hR
  obtain ⟨vd, vn, vi, -⟩ := bs ha
  refine .go _ rfl rfl ?_
  simp [blit0]
  refine .up l.length (fun i s => s.env 0 = v ∧ s.env 3 = .ref objs.length i 0 i 1 ∧ s.env 4 = .int .i64 i ∧ s.toks = [] ∧ s.objs = objs ++ [.cells (ints .u8 (l.take i)) i] ∧ s.low = objs.length) (by simp [ints_nil]) ?_
  rintro i s hi ⟨h0, h3, h4, ht, ho, hlo⟩
  rcases Nat.lt_or_ge i l.length with h | h
  · have e := take_nth h
    simp (disch := omega) [h0, h3, h4, ht, ho, hlo, vn, vi, h, ints_nth, blit1, e, wrap_small, getObj_last, Nat.mod_one]
  · obtain rfl : i = l.length := by omega
    simp [h0, h3, h4, ht, ho, hlo, vn, getObj_last])

noncomputable def k_Cat : Ab.Spec := con2 (ofInts .u8) (ofInts .u8) fun a b _ => bnd (a.length + b.length) 140737488355300 (some (.lst (.fresh 1 false) (ints .u8 (a ++ b)) (a.length + b.length), none))
noncomputable def T_Cat : CallF := withF T_Copy 46 k_Cat
theorem T_Cat_ok : CallOk Tryd.prog T_Cat := con_of (A := annOf [8] [] [] false []) fit T_Copy_ok (fn := Tryd.f46) (by kernel_rfl) (by kernel_rfl) (by
  intro args objs r h0
  obtain ⟨v, w, a, b, rfl, ha, hb, hR⟩ := con2_inv h0
  obtain ⟨hl, hR⟩ := bnd_inv hR
  cases hR
  obtain ⟨vd, vn, vi, -⟩ := bs ha
  obtain ⟨wd, wn, wi, -⟩ := bs hb
  refine .go _ rfl rfl ?_
  simp [blit0]
  refine .up a.length (fun i s => s.env 0 = v ∧ s.env 1 = w ∧ s.env 5 = .lst (.tok 0 1) (ints .u8 (a.take i)) i ∧ s.env 6 = .int .i64 i ∧ s.toks = [i] ∧ s.objs = objs ∧ s.low = objs.length) (by simp [ints_nil]) ?_
  rintro i s hi ⟨h0, h1, h5, h6, ht, ho, hlo⟩
  rcases Nat.lt_or_ge i a.length with h | h
  · have e := take_nth h
    have hm : min i a.length = i := by omega
    simp (disch := omega) [h0, h1, h5, h6, ht, ho, hlo, vn, vi, h, ints_nth, blit1, e, wrap_small, Nat.mod_one, hm]
  · obtain rfl : i = a.length := by omega
    simp [h0, h1, h5, h6, ht, ho, hlo, vn]
    refine .up b.length (fun i s => s.env 1 = w ∧ s.env 5 = .lst (.tok 0 1) (ints .u8 (a ++ b.take i)) (a.length + i) ∧ s.env 7 = .int .i64 i ∧ s.toks = [a.length + i] ∧ s.objs = objs ∧ s.low = objs.length) (by simp [h0, h1, h5, h6, ht, ho, hlo]) ?_
    rintro i s hi ⟨h1, h5, h7, ht, ho, hlo⟩
    rcases Nat.lt_or_ge i b.length with h | h
    · have e := take_nth h
      have hm : min i b.length = i := by omega
      simp (disch := omega) [h1, h5, h7, ht, ho, hlo, wn, wi, h, ints_nth, blit1, e, wrap_small, Nat.mod_one, hm, Nat.add_assoc]
    · obtain rfl : i = b.length := by omega
      simp [h1, h5, h7, ht, ho, hlo, wn])

def pieceZ (l : List Int) (lo hi : Int) : List Int := (l.take hi.toNat).drop lo.toNat
theorem pieceZ_len (l : List Int) (lo hi : Int) : (pieceZ l lo hi).length = min hi.toNat l.length - lo.toNat := by simp [pieceZ]
noncomputable def k_Piece : Ab.Spec := con3 (ofInts .u8) (ofInt .i64) (ofInt .i64) fun l lo hi _ => bnd l.length 140737488355300 (if lo < 9223372036854775807 then some (.lst (.fresh 1 false) (ints .u8 (pieceZ l lo hi)) (pieceZ l lo hi).length, none) else none)
noncomputable def T_Piece : CallF := withF T_Cat 50 k_Piece
theorem T_Piece_ok : CallOk Tryd.prog T_Piece := con_of (A := annOf [9] [] [] false []) fit T_Cat_ok (fn := Tryd.f50) (by kernel_rfl) (by kernel_rfl) (by
  intro args objs r h0
  obtain ⟨v, _, _, l, lo, hi, rfl, ha, hb, hc, hR⟩ := con3_inv h0
  obtain rfl := ofInt_inv hb
  obtain rfl := ofInt_inv hc
  obtain ⟨hl, hR⟩ := bnd_inv hR
  split at hR
  case isFalse => cases hR
  rename_i hlo9
  cases hR
  obtain ⟨vd, vn, vi, -⟩ := bs ha
  refine .go _ rfl rfl ?_
  simp [blit0]
  refine .stop (M := fun e s => e = .norm ∧ s.env 0 = v ∧ s.env 2 = .int .i64 hi ∧ s.env 1 = .int .i64 (lo.toNat : Int) ∧ s.env 7 = .lst (.tok 0 1) [] 0 ∧ s.toks = [0] ∧ s.objs = objs ∧ s.low = objs.length) ?_ ?_
  · by_cases h : lo < 0
    · have : (max lo 0) = 0 := by omega
      simp [h, At, this]
    · have : max lo 0 = lo := by omega
      simp [h, At, this]
  rintro e s ⟨rfl, h0, h2, h1, h7, ht, ho, hlo⟩
  unfold pieceZ
  obtain ⟨p, hp⟩ : ∃ p, lo.toNat = p := ⟨_, rfl⟩
  rw [hp] at h1 ⊢
  simp [h0, h2, h1, h7, ht, ho, hlo]
  refine .up (l.length - p) (fun i s => s.env 0 = v ∧ s.env 2 = .int .i64 hi ∧ s.env 8 = .int .i64 ((p + i : Nat) : Int) ∧ s.env 7 = .lst (.tok 0 1) (ints .u8 ((l.drop p).take i)) i ∧ s.toks = [i] ∧ s.objs = objs ∧ s.low = objs.length ∧ (i = 0 ∨ ((p + i : Nat) : Int) ≤ hi)) (by simp [h0, h2, h1, h7, ht, ho, hlo, ints_nil]) ?_
  rintro i s hi9 ⟨h0, h2, h8, h7, ht, ho, hlo, hd⟩
  have fin : ¬ (p + i < l.length ∧ ((p + i : Nat) : Int) < hi) → (l.drop p).take i = (l.take hi.toNat).drop p := by
    intro hn
    rw [List.drop_take]
    rcases Nat.lt_or_ge (p + i) l.length with h | h
    · have h3 : hi ≤ ((p + i : Nat) : Int) := by
        rcases Int.lt_or_le ((p + i : Nat) : Int) hi with h3 | h3
        · exact absurd ⟨h, h3⟩ hn
        · exact h3
      rcases hd with rfl | hd
      · have : hi.toNat - p = 0 := by omega
        rw [this]
      · congr 1; omega
    · rw [List.take_of_length_le (by simp; omega), List.take_of_length_le]
      rcases hd with rfl | hd
      · simp; omega
      · simp; omega
  have hm : min i (l.length - p) = i := by omega
  by_cases h : p + i < l.length
  · by_cases h3 : ((p + i : Nat) : Int) < hi
    · have e : (l.drop p).take (i + 1) = (l.drop p).take i ++ [nth l (p + i)] := by rw [take_nth (by simp; omega), nth_drop]
      have h4 : i < l.length - p := by omega
      have h5 : ((p + i : Nat) : Int) + 1 ≤ hi := by omega
      simp only [Int.natCast_add] at h3 h5
      have hI : (p : Int) + (i : Int) < l.length := by omega
      simp (disch := omega) [h0, h2, h8, h7, ht, ho, hlo, vn, vi, h, h3, h4, h5, ints_nth, blit1, e, wrap_small, Nat.mod_one, hm]
      try omega
    · have f := fin (fun q => h3 q.2)
      rw [← f]
      simp only [Int.natCast_add] at h3
      simp (disch := omega) [h0, h2, h8, h7, ht, ho, hlo, vn, hm]
      omega
  · have f := fin (fun q => h q.1)
    rw [← f]
    simp (disch := omega) [h0, h2, h8, h7, ht, ho, hlo, vn, hm]
    omega)

def mkZ (i : Int) : Int := IntKind.u8.wrap (IntKind.i64.wrap (192 + i.tmod 7))
def marks (n : Nat) : List Int := (List.range n).map fun i : Nat => mkZ i
def wide (l : List Int) : List Int := l ++ marks 64
theorem marks_len (n : Nat) : (marks n).length = n := by simp [marks]
theorem wide_len (l : List Int) : (wide l).length = l.length + 64 := by simp [wide, marks_len]
theorem marks_succ (n : Nat) : marks (n + 1) = marks n ++ [mkZ n] := by simp [marks, List.range_succ]
theorem marks_nth {n i : Nat} (h : i < n) : nth (marks n) i = mkZ i := by
  unfold marks
  rw [nth_map (by simpa using h)]
  congr 1
  simp [nth, h]
noncomputable def k_Wide : Ab.Spec := con1 (ofInts .u8) fun l _ => bnd l.length 140737488355000 (some (.lst (.fresh 1 true) (ints .u8 (wide l)) (l.length + 64), none))
noncomputable def T_Wide : CallF := withF T_Piece 39 k_Wide
theorem T_Wide_ok : CallOk Tryd.prog T_Wide := con_of (A := annOf [] [17] [(6, [.ref])] false []) fit T_Piece_ok (fn := Tryd.f39) (by kernel_rfl) (by kernel_rfl) (by
  intro args objs r h0
  have c_Copy : ∀ a o, T_Piece 48 a o = k_Copy a o := fun _ _ => rfl
  obtain ⟨v, l, rfl, ha, hR⟩ := con1_inv h0
  obtain ⟨hl, hR⟩ := bnd_inv hR
  cases hR
  obtain ⟨vd, vn, vi, -⟩ := bs ha
  refine .go _ rfl rfl ?_
  simp (disch := omega) [c_Copy, k_Copy, vd, ha]
  refine .up 64 (fun i s => s.env 3 = .ref objs.length i 0 (l.length + i) 1 ∧ s.env 4 = .int .i64 i ∧ s.toks = [] ∧ s.objs = objs ++ [.cells (ints .u8 (l ++ marks i)) i] ∧ s.low = objs.length) (by simp [marks]) ?_
  rintro i s hi ⟨h3, h4, ht, ho, hlo⟩
  rcases Nat.lt_or_ge i 64 with h | h
  · have e := marks_succ i
    have hz : (i : Int) < 64 := by omega
    simp (disch := omega) [h3, h4, ht, ho, hlo, h, hz, blit1, e, wrap_small, getObj_last, Nat.mod_one, marks_len, convV, mkZ, Nat.add_assoc]
  · obtain rfl : i = 64 := by omega
    simp [h3, h4, ht, ho, hlo, getObj_last, marks_len, wide])

noncomputable def k_Intact : Ab.Spec := con2 (ofInts .u8) (ofInts .u8) fun w l _ => bnd (w.length + l.length) 281474976710656 (some (.bool (decide (w = wide l)), none))
noncomputable def T_Intact : CallF := withF T_Wide 45 k_Intact
theorem T_Intact_ok : CallOk Tryd.prog T_Intact := con_of (A := annOf [] [] [] false []) fit T_Wide_ok (fn := Tryd.f45) (by kernel_rfl) (by kernel_rfl) (by
  intro args objs r h0
  obtain ⟨v, w, a, b, rfl, ha, hb, hR⟩ := con2_inv h0
  obtain ⟨hl, hR⟩ := bnd_inv hR
  cases hR
  obtain ⟨vd, vn, vi, -⟩ := bs ha
  obtain ⟨wd, wn, wi, -⟩ := bs hb
  refine .go _ rfl rfl ?_
  by_cases hn : a.length = b.length + 64
  · have hw : IntKind.i64.wrap ((b.length : Int) + 64) = (b.length : Int) + 64 := wrap_small (by omega) (by omega)
    have hn2 : ((a.length : Int) != (b.length : Int) + 64) = false := by simp only [bne_eq_false_iff_eq]; omega
    simp [vn, wn, hw, hn2]
    refine .up b.length (fun i s => s.env 0 = v ∧ s.env 1 = w ∧ s.env 5 = .int .i64 i ∧ s.toks = [] ∧ s.objs = objs ∧ s.low = objs.length ∧ ∀ j, j < i → nth a j = nth b j) (by simp) ?_
    rintro i s hi ⟨h0, h1, h5, ht, ho, hlo, hj⟩
    rcases Nat.lt_or_ge i b.length with h | h
    · by_cases he : nth a i = nth b i
      · have hf : (nth a i != nth b i) = false := by simpa using he
        have hs : ∀ j, j < i + 1 → nth a j = nth b j := fun j hj2 => by
          rcases Nat.lt_or_ge j i with h2 | h2
          · exact hj j h2
          · obtain rfl : j = i := by omega
            exact he
        simp (disch := omega) [h0, h1, h5, ht, ho, hlo, vn, wn, vi, wi, h, ints_nth, hf, wrap_small]
        exact hs
      · have hf : (nth a i != nth b i) = true := by simpa using he
        have hne : a ≠ wide b := fun q => he (by rw [q, wide, nth_app_l h])
        simp (disch := omega) [h0, h1, h5, ht, ho, hlo, vn, wn, vi, wi, h, ints_nth, hf, hne]
    · obtain rfl : i = b.length := by omega
      simp [h0, h1, h5, ht, ho, hlo, vn, wn]
      refine .up 64 (fun i s => s.env 0 = v ∧ s.env 1 = w ∧ s.env 6 = .int .i64 i ∧ s.toks = [] ∧ s.objs = objs ∧ s.low = objs.length ∧ ∀ j, j < i → nth a (b.length + j) = mkZ j) (by simp [h0, h1, ht, ho, hlo]) ?_
      rintro i s hi ⟨h0, h1, h6, ht, ho, hlo, hj2⟩
      rcases Nat.lt_or_ge i 64 with h | h
      · have hz : (i : Int) < 64 := by omega
        have hwi : IntKind.i64.wrap ((b.length : Int) + i) = (b.length : Int) + i := wrap_small (by omega) (by omega)
        by_cases he : nth a (b.length + i) = mkZ i
        · have hf : (nth a (b.length + i) != mkZ i) = false := by simpa using he
          have hs : ∀ j, j < i + 1 → nth a (b.length + j) = mkZ j := fun j hj3 => by
            rcases Nat.lt_or_ge j i with h2 | h2
            · exact hj2 j h2
            · obtain rfl : j = i := by omega
              exact he
          unfold mkZ at hf
          simp (disch := omega) [h0, h1, h6, ht, ho, hlo, vn, wn, vi, h, hz, ints_nth, hf, wrap_small, convV, hwi]
          exact hs
        · have hf : (nth a (b.length + i) != mkZ i) = true := by simpa using he
          have hne : a ≠ wide b := fun q => he (by rw [q, wide, nth_app_r (by omega), Nat.add_sub_cancel_left, marks_nth h])
          unfold mkZ at hf
          simp (disch := omega) [h0, h1, h6, ht, ho, hlo, vn, wn, vi, h, hz, ints_nth, hf, wrap_small, convV, hwi, hne]
      · obtain rfl : i = 64 := by omega
        have hab : a = wide b := ext_nth (by rw [hn, wide_len]) fun j h2 => by
          rcases Nat.lt_or_ge j b.length with h3 | h3
          · rw [hj j h3, wide, nth_app_l h3]
          · have := hj2 (j - b.length) (by omega)
            rw [show b.length + (j - b.length) = j by omega] at this
            rw [this, wide, nth_app_r h3, marks_nth (by omega)]
        simp [h0, h1, h6, ht, ho, hlo, hab]
  · have hw : IntKind.i64.wrap ((b.length : Int) + 64) = (b.length : Int) + 64 := wrap_small (by omega) (by omega)
    have hn2 : ((a.length : Int) != (b.length : Int) + 64) = true := by simp only [bne_iff_ne, ne_eq]; omega
    have hne : a ≠ wide b := fun q => hn (by rw [q, wide_len])
    simp [vn, wn, hw, hn2, hne])

/-! what a law is handed -/
def b8 (l : List Int) : Bool := l.all fun c => decide (0 ≤ c) && decide (c < 256)
theorem b8_iff {l : List Int} : b8 l = true ↔ ∀ c ∈ l, 0 ≤ c ∧ c < 256 := by simp [b8]
theorem wf_u8 {l : List Int} (h : ∀ c ∈ l, (Lit.int .u8 c).wf = true) : b8 l = true := b8_iff.2 fun c hc => by
  have := h c hc
  simp [Lit.wf, IntKind.min, IntKind.max] at this
  omega

end Go.Proofs.YtnbgmclbbkfhhaaDoor.B
set_option maxRecDepth 20000
set_option maxHeartbeats 1000000
namespace Go.Proofs.YtnbgmclbbkfhhaaDoor.B
open Go Go.Ab
/-! slices of bytes, told or as objects -/
theorem bsR {objs : List AO} {v : V} {l : List Int} (h : ofIntsR .u8 objs v = some l) : ∃ P : Nat → V, demote v = v ∧ lenV Tryd.prog 59 v = some (.int .i64 l.length) ∧ (∀ k i, 0 ≤ i → i < (l.length : Int) → indexV Tryd.prog 59 v (.int k i) = some (P i.toNat)) ∧ ∀ i, i < l.length → loadV Tryd.prog 5 objs (P i) = some (.int .u8 (nth l i)) := by
  rcases ofIntsR_inv h with h | ⟨id, ver, off, cs, rfl, hg, hrow, -⟩
  · obtain ⟨vd, vn, vi, -⟩ := bs h
    refine ⟨fun i => .fptr (ints .u8 l) i, vd, vn, vi, fun i hi => ?_⟩
    have e := of_get (ints_nth (k := .u8) hi)
    simp [hi, e]
  · refine ⟨fun i => .ptr id ver (off + i), rfl, by simp, fun k i h0 h1 => by simp [h0, h1], fun i hi => ?_⟩
    have e := row_get hrow hi
    simp [hg, e]
noncomputable def k_SameR : Ab.Spec := con2 some some fun v w objs => match ofIntsR .u8 objs v, ofIntsR .u8 objs w with | some a, some b => bnd a.length 140737488355328 (some (.bool (decide (a = b)), none)) | _, _ => none
noncomputable def T_SameR : CallF := withF T_Intact 49 k_SameR
theorem T_SameR_ok : CallOk Tryd.prog T_SameR := con_of (A := annOf [] [] [] false []) fit T_Intact_ok (fn := Tryd.f49) (by kernel_rfl) (by kernel_rfl) (by
  intro args objs r h0
  obtain ⟨v, w, _, _, rfl, hv, hw, hR⟩ := con2_inv h0
  cases hv; cases hw
  split at hR
  case h_2 => cases hR
  rename_i a b ha hb
  obtain ⟨hl, hR⟩ := bnd_inv hR
  cases hR
  obtain ⟨pa, vd, vn, vi, vl⟩ := bsR ha
  obtain ⟨pb, wd, wn, wi, wl⟩ := bsR hb
  refine .go _ rfl rfl ?_
  by_cases hn : a.length = b.length
  · simp [vn, wn, hn]
    refine .up a.length (fun i s => s.env 0 = v ∧ s.env 1 = w ∧ s.env 5 = .int .i64 i ∧ s.toks = [] ∧ s.objs = objs ∧ s.low = objs.length ∧ ∀ j, j < i → nth a j = nth b j) (by simp) ?_
    rintro i s hi ⟨h0, h1, h5, ht, ho, hlo, hj⟩
    rcases Nat.lt_or_ge i a.length with h | h
    · by_cases he : nth a i = nth b i
      · have hf : (nth a i != nth b i) = false := by simpa using he
        have hs : ∀ j, j < i + 1 → nth a j = nth b j := fun j hj2 => by
          rcases Nat.lt_or_ge j i with h2 | h2
          · exact hj j h2
          · obtain rfl : j = i := by omega
            exact he
        simp (disch := omega) [h0, h1, h5, ht, ho, hlo, vn, wn, vi, wi, vl, wl, h, hf, wrap_small]
        exact hs
      · have hf : (nth a i != nth b i) = true := by simpa using he
        have hne : a ≠ b := fun q => he (by rw [q])
        simp (disch := omega) [h0, h1, h5, ht, ho, hlo, vn, wn, vi, wi, vl, wl, h, hf, hne]
    · have hab : a = b := ext_nth hn fun j h2 => hj j (by omega)
      have hnl : ¬ i < b.length := by omega
      simp [h0, h1, h5, ht, ho, hlo, vn, wn, hab, hnl]
  · have hf : ((a.length : Int) != (b.length : Int)) = true := by simp only [bne_iff_ne, ne_eq]; omega
    have hne : a ≠ b := fun q => hn (by rw [q])
    simp [vn, wn, hf, hne])
def spF (c : Int) : Int := Go.bits .xor .u8 c 90
noncomputable def k_TurnedR : Ab.Spec := con2 some some fun v w objs => match ofIntsR .u8 objs v, ofIntsR .u8 objs w with | some a, some b => bnd a.length 140737488355328 (some (.bool (decide (a = b.map spF)), none)) | _, _ => none
noncomputable def T_TurnedR : CallF := withF T_SameR 64 k_TurnedR
theorem T_TurnedR_ok : CallOk Tryd.prog T_TurnedR := con_of (A := annOf [] [] [] false []) fit T_SameR_ok (fn := Tryd.f64) (by kernel_rfl) (by kernel_rfl) (by
  intro args objs r h0
  obtain ⟨v, w, _, _, rfl, hv, hw, hR⟩ := con2_inv h0
  cases hv; cases hw
  split at hR
  case h_2 => cases hR
  rename_i a b ha hb
  obtain ⟨hl, hR⟩ := bnd_inv hR
  cases hR
  obtain ⟨pa, vd, vn, vi, vl⟩ := bsR ha
  obtain ⟨pb, wd, wn, wi, wl⟩ := bsR hb
  refine .go _ rfl rfl ?_
  by_cases hn : a.length = b.length
  · have hml : a.length = (b.map spF).length := by simp [hn]
    have hnm : ∀ j, j < b.length → nth (b.map spF) j = spF (nth b j) := fun j hj => by
      unfold nth; rw [List.getD_eq_getElem?_getD, List.getD_eq_getElem?_getD, List.getElem?_map, List.getElem?_eq_getElem hj]; rfl
    simp [vn, wn, hn]
    refine .up b.length (fun i s => s.env 0 = v ∧ s.env 1 = w ∧ s.env 5 = .int .i64 i ∧ s.toks = [] ∧ s.objs = objs ∧ s.low = objs.length ∧ ∀ j, j < i → nth a j = spF (nth b j)) (by simp) ?_
    rintro i s hi ⟨h0, h1, h5, ht, ho, hlo, hj⟩
    rcases Nat.lt_or_ge i b.length with h | h
    · by_cases he : nth a i = spF (nth b i)
      · have hf : (nth a i != Go.bits .xor .u8 (nth b i) 90) = false := by simpa [spF] using he
        have hs : ∀ j, j < i + 1 → nth a j = spF (nth b j) := fun j hj2 => by
          rcases Nat.lt_or_ge j i with h2 | h2
          · exact hj j h2
          · obtain rfl : j = i := by omega
            exact he
        simp (disch := omega) [h0, h1, h5, ht, ho, hlo, vn, wn, vi, wi, vl, wl, h, hf, wrap_small]
        exact hs
      · have hf : (nth a i != Go.bits .xor .u8 (nth b i) 90) = true := by simpa [spF] using he
        have hne : a ≠ b.map spF := fun q => he (by rw [q, hnm i h])
        simp (disch := omega) [h0, h1, h5, ht, ho, hlo, vn, wn, vi, wi, vl, wl, h, hf, hne]
    · have hab : a = b.map spF := ext_nth hml fun j h2 => by rw [hj j (by omega), hnm j (by omega)]
      have hnl : ¬ i < b.length := by omega
      simp [h0, h1, h5, ht, ho, hlo, vn, wn, ← hab, hnl]
  · have hf : ((a.length : Int) != (b.length : Int)) = true := by simp only [bne_iff_ne, ne_eq]; omega
    have hne : a ≠ b.map spF := fun q => hn (by rw [q]; simp)
    simp [vn, wn, hf, hne])
noncomputable def k_Spoil : Ab.Spec := con1 some fun v objs => match v with
  | .nils => some (.tup [], none)
  | .ref id ver 0 n 1 => match Ab.getObj objs id ver with
    | some cs => (ofCellsI .u8 cs).bind fun a => bnd a.length 140737488355000 (if n = a.length then some (.tup [], if n = 0 then none else some (objs.set id (.cells (ints .u8 (a.map spF)) ver), id)) else none)
    | _ => none
  | _ => none
noncomputable def T_Spoil : CallF := withF T_TurnedR 63 k_Spoil
theorem T_Spoil_ok : CallOk Tryd.prog T_Spoil := con_of (A := annOf [] [] [] false []) fit T_TurnedR_ok (fn := Tryd.f63) (by kernel_rfl) (by kernel_rfl) (by
  intro args objs r h0
  obtain ⟨v, _, rfl, hv, hR⟩ := con1_inv h0
  cases hv
  refine .go _ rfl rfl ?_
  split at hR
  · cases hR
    simp
    refine .up 0 (fun i s => s.env 0 = .nils ∧ s.env 2 = .int .i64 0 ∧ s.toks = [] ∧ s.objs = objs ∧ s.low = objs.length) (by simp) ?_
    rintro i s hi ⟨g0, g2, ht, ho, hlo⟩
    simp (disch := omega) [g0, g2, ht, ho, hlo]
  · rename_i id ver n
    split at hR
    case h_2 => cases hR
    rename_i cs hg
    obtain ⟨a, ecs, hR2⟩ := Option.bind_eq_some_iff.1 hR
    obtain rfl := ofCellsI_inv ecs
    clear hR
    obtain ⟨hl, hR⟩ := bnd_inv hR2
    split at hR
    case isFalse => cases hR
    rename_i hn
    subst hn
    cases hR
    have hid := getObj_lt hg
    simp -implicitDefEqProofs (disch := omega)
    refine .up a.length (fun i s => s.env 0 = .ref id ver 0 a.length 1 ∧ s.env 2 = .int .i64 i ∧ s.toks = [] ∧ s.objs = objs.set id (.cells (ints .u8 (mapP spF a i)) ver) ∧ s.low = if i = 0 then objs.length else id) (by simp [mapP]; exact (set_self hg).symm) ?_
    rintro i s hi ⟨g0, g2, ht, ho, hlo⟩
    have hx := mapP_len spF a i
    have hgs := getObj_set (cs := ints .u8 (mapP spF a i)) (v := ver) hid
    rcases Nat.lt_or_ge i a.length with h | h
    · have e0 := ints_nth (k := .u8) (l := mapP spF a i) (i := i) (by omega)
      have e := of_get e0
      have es := ints_set1 (k := .u8) (l := mapP spF a i) (i := i) (c := Go.bits .xor .u8 (nth (mapP spF a i) i) 90) (by omega)
      have hw : IntKind.i64.wrap ((i : Int) + 1) = (i : Int) + 1 := wrap_small (by omega) (by omega)
      have hs1 : i + 1 ≤ a.length := h
      have ex : (mapP spF a i).set i (Go.bits .xor .u8 (nth (mapP spF a i) i) 90) = mapP spF a (i + 1) := rfl
      rw [ex] at es
      have hlow : (if id < s.low then id else s.low) = id := by
        rw [hlo]
        by_cases z : i = 0
        · rw [if_pos z, if_pos hid]
        · rw [if_neg z, if_neg (by omega)]
      simp -implicitDefEqProofs (disch := omega) [g0, g2, ht, ho, hgs, e0, e, es, hx, hw, hlow, h, hs1]
    · obtain rfl : i = a.length := by omega
      have hm := mapP_all spF a
      rw [hm] at ho
      have htk : (objs.set id (AO.cells (ints .u8 (a.map spF)) ver)).take objs.length = objs.set id (AO.cells (ints .u8 (a.map spF)) ver) := List.take_of_length_le (by simp)
      by_cases z : a.length = 0
      · have hlo' : s.low = objs.length := by rw [hlo, if_pos z]
        simp -implicitDefEqProofs (disch := omega) [g0, g2, ht, ho, hlo', htk, z]
        exact List.eq_nil_of_length_eq_zero z
      · have hlo' : s.low = id := by rw [hlo, if_neg z]
        simp -implicitDefEqProofs (disch := omega) [g0, g2, ht, ho, hlo', htk, hid, z]
        exact fun q => z (by rw [q]; rfl)
  · cases hR)

end Go.Proofs.YtnbgmclbbkfhhaaDoor.B
set_option maxRecDepth 20000
set_option maxHeartbeats 1000000
namespace Go.Proofs.YtnbgmclbbkfhhaaDoor.B
open Go Go.Ab
noncomputable def k_Apart : Ab.Spec := con3 some some some fun v w u objs => match v with
  | .nils => match ofIntsR .u8 objs w, ofIntsR .u8 objs u with | some b, some c => if b = [] ∧ c = [] then some (.bool true, none) else none | _, _ => none
  | .ref id ver 0 n 1 => match Ab.getObj objs id ver with
    | some cs => (ofCellsI .u8 cs).bind fun a => bnd a.length 140737488354000 (if n = a.length ∧ ofIntsR .u8 objs w = some a ∧ ofIntsR .u8 objs u = some a ∧ ofIntsR .u8 (objs.set id (.cells (ints .u8 (a.map spF)) ver)) w = some a ∧ ofIntsR .u8 (objs.set id (.cells (ints .u8 (a.map spF)) ver)) u = some a ∧ (n = 0 ∨ clean objs.length (objs.set id (.cells (ints .u8 (a.map spF)) ver)) = true)
      then some (.bool true, if n = 0 then none else some (objs.set id (.cells (ints .u8 (a.map spF)) ver), id)) else none)
    | _ => none
  | _ => none
noncomputable def T_Apart : CallF := withF T_Spoil 38 k_Apart
theorem T_Apart_ok : CallOk Tryd.prog T_Apart := con_ofW (A := annOf [] [] [] false [63]) fit T_Spoil_ok (fn := Tryd.f38) (by kernel_rfl) (by kernel_rfl) (by
  intro args objs r h0
  have c_SameR : ∀ a o, T_Spoil 49 a o = k_SameR a o := fun _ _ => rfl
  have c_TurnedR : ∀ a o, T_Spoil 64 a o = k_TurnedR a o := fun _ _ => rfl
  have c_Spoil : ∀ a o, T_Spoil 63 a o = k_Spoil a o := fun _ _ => rfl
  obtain ⟨v, w, u, _, _, _, rfl, hv, hw, hu, hR⟩ := con3_inv h0
  cases hv; cases hw; cases hu
  refine .go _ rfl rfl ?_
  split at hR
  · split at hR
    case h_2 => cases hR
    rename_i b c hb hc
    split at hR
    case isFalse => cases hR
    rename_i e
    obtain ⟨rfl, rfl⟩ := e
    cases hR
    have hn : ofIntsR .u8 objs V.nils = some [] := rfl
    obtain ⟨pb, wd, wn, -⟩ := bsR hb
    obtain ⟨pc, ud, un, -⟩ := bsR hc
    refine .thenT ?_
    simp
    refine .thenT ?_
    simp -implicitDefEqProofs (disch := omega) [wd, ud, c_SameR, k_SameR, hn, hb, hc]
    refine .thenT ?_
    simp -implicitDefEqProofs (disch := omega) [c_Spoil, k_Spoil]
    refine .thenT ?_
    simp -implicitDefEqProofs (disch := omega)
    refine .then (.thenT ?_)
    simp -implicitDefEqProofs (disch := omega)
    refine .cut (grow_block (N := 70) (n := 0) (X := fun _ => True) (LB := [7, 30, 29, 28, 27, 26]) (by omega) (by omega) (.inl ⟨rfl, rfl⟩) rfl (fun _ _ _ _ _ _ => trivial) (fun _ _ _ _ => trivial) (body_byte u59 (by kernel_rfl) v5 u3 u5 (by omega) (by decide)) (by simp) (by decide) (by decide)) ?_
    show ToW _ _ _ _ _ _ _ _
    refine .of ?_
    simp -implicitDefEqProofs (disch := omega) [grownEnv, wd, ud, un, c_TurnedR, k_TurnedR, c_SameR, k_SameR, hn, hb, hc, wrap_small]
  · rename_i id ver n
    split at hR
    case h_2 => cases hR
    rename_i cs hg
    obtain ⟨a, ecs, hR2⟩ := Option.bind_eq_some_iff.1 hR
    obtain rfl := ofCellsI_inv ecs
    clear hR
    obtain ⟨hl, hR⟩ := bnd_inv hR2
    split at hR
    case isFalse => cases hR
    rename_i e
    obtain ⟨rfl, hb, hc, hb2, hc2, hcl⟩ := e
    have hid := getObj_lt hg
    have hn := ofIntsR_ref hg (n := a.length) rfl
    obtain ⟨pb, wd, wn, -⟩ := bsR hb
    obtain ⟨pc, ud, un, -⟩ := bsR hc
    have hl2 : a.length < 140737488355000 := by omega
    refine .thenT ?_
    simp
    refine .thenT ?_
    simp -implicitDefEqProofs (disch := omega) [wd, ud, c_SameR, k_SameR, hn, hb, hc]
    refine .thenT ?_
    by_cases hz : a.length = 0
    · rw [if_pos hz] at hR
      cases hR
      obtain rfl := List.eq_nil_of_length_eq_zero hz
      simp -implicitDefEqProofs (disch := omega) [c_Spoil, k_Spoil, hg, ofCellsI_ints]
      refine .thenT ?_
      simp -implicitDefEqProofs (disch := omega)
      refine .then (.thenT ?_)
      simp -implicitDefEqProofs (disch := omega)
      refine .cut (grow_block (N := 70) (n := 0) (X := fun _ => True) (LB := [7, 30, 29, 28, 27, 26]) (by omega) (by omega) (.inr ⟨id, ver, _, rfl, hg, by simp⟩) rfl (fun _ _ _ _ _ _ => trivial) (fun _ _ _ _ => trivial) (body_byte u59 (by kernel_rfl) v5 u3 u5 (by omega) (by decide)) (by simp) (by decide) (by decide)) ?_
      show ToW _ _ _ _ _ _ _ _
      refine .of ?_
      simp at hn
      simp -implicitDefEqProofs (disch := omega) [grownEnv, wd, ud, un, c_TurnedR, k_TurnedR, c_SameR, k_SameR, hn, hb, hc, wrap_small]
    · rw [if_neg hz] at hR
      cases hR
      have hcl := hcl.resolve_left hz
      have hgs := getObj_set (cs := ints .u8 (a.map spF)) (v := ver) hid
      have hn2 := ofIntsR_ref hgs (n := a.length) (by simp)
      simp -implicitDefEqProofs (disch := omega) [c_Spoil, k_Spoil, hg, ofCellsI_ints, hl2, hz, hcl, hid]
      refine .thenT ?_
      simp -implicitDefEqProofs (disch := omega)
      refine .then (.thenT ?_)
      simp -implicitDefEqProofs (disch := omega)
      refine .cut (grow_block (N := 70) (n := a.length) (X := fun _ => True) (LB := [7, 30, 29, 28, 27, 26]) (by omega) (by omega) (.inr ⟨id, ver, _, rfl, hgs, by simp⟩) rfl (fun _ _ _ _ _ _ => trivial) (fun _ _ _ _ => trivial) (body_byte u59 (by kernel_rfl) v5 u3 u5 (by omega) (by decide)) (by simp) (by decide) (by decide)) ?_
      show ToW _ _ _ _ _ _ _ _
      refine .of ?_
      have htk : (objs.set id (AO.cells (ints .u8 (a.map spF)) ver)).take objs.length = objs.set id (AO.cells (ints .u8 (a.map spF)) ver) := List.take_of_length_le (by simp)
      simp -implicitDefEqProofs (disch := omega) [grownEnv, wd, ud, un, c_TurnedR, k_TurnedR, c_SameR, k_SameR, hn2, hb2, hc2, hl, htk, hid, wrap_small]
  · cases hR)
theorem apart_two {a : List Int} {n : Nat} {u : V} (hn : n = a.length) (h0 : 0 < n) (hl : n < 140737488354000) (hu : ofInts .u8 u = some a) :
    k_Apart [.ref 0 0 0 n 1, .ref 1 0 0 n 1, u] [.cells (ints .u8 a) 0, .cells (ints .u8 a) 0] = some (.bool true, some ([.cells (ints .u8 (a.map spF)) 0, .cells (ints .u8 a) 0], 0)) := by
  subst hn
  have h1 : ofIntsR .u8 [.cells (ints .u8 a) 0, .cells (ints .u8 a) 0] (.ref 1 0 0 a.length 1) = some a := ofIntsR_ref rfl rfl
  have h2 : ofIntsR .u8 [.cells (ints .u8 (a.map spF)) 0, .cells (ints .u8 a) 0] (.ref 1 0 0 a.length 1) = some a := ofIntsR_ref rfl rfl
  have h3 : clean 2 [.cells (ints .u8 (a.map spF)) 0, .cells (ints .u8 a) 0] = true := by simp [clean]
  have hz : ¬ a.length = 0 := by omega
  have hz2 : ¬ a = [] := fun q => hz (by rw [q]; rfl)
  simp [k_Apart, con3, Ab.getObj, ofCellsI_ints, hl, h1, h2, h3, ofIntsR_of hu, hz2, bnd_pos]
theorem apart_nil {u : V} (hu : ofInts .u8 u = some []) : k_Apart [.nils, .nils, u] [] = some (.bool true, none) := by
  have h1 : ofIntsR .u8 [] V.nils = some [] := rfl
  simp [k_Apart, con3, h1, ofIntsR_of hu]
theorem apart_one {a : List Int} {cs : List V} {ver n : Nat} {u : V} (hcs : norefs 3 cs = true) (hn : n = a.length) (h0 : 0 < n) (hl : n < 140737488354000) (hu : ofInts .u8 u = some a) :
    k_Apart [.ref 1 0 0 n 1, .ref 2 0 0 n 1, u] [.cells cs ver, .cells (ints .u8 a) 0, .cells (ints .u8 a) 0] = some (.bool true, some ([.cells cs ver, .cells (ints .u8 (a.map spF)) 0, .cells (ints .u8 a) 0], 1)) := by
  subst hn
  have h1 : ofIntsR .u8 [.cells cs ver, .cells (ints .u8 a) 0, .cells (ints .u8 a) 0] (.ref 2 0 0 a.length 1) = some a := ofIntsR_ref rfl rfl
  have h2 : ofIntsR .u8 [.cells cs ver, .cells (ints .u8 (a.map spF)) 0, .cells (ints .u8 a) 0] (.ref 2 0 0 a.length 1) = some a := ofIntsR_ref rfl rfl
  have h3 : clean 3 [.cells cs ver, .cells (ints .u8 (a.map spF)) 0, .cells (ints .u8 a) 0] = true := by simp [clean, hcs]
  have hz : ¬ a.length = 0 := by omega
  have hz2 : ¬ a = [] := fun q => hz (by rw [q]; rfl)
  simp [k_Apart, con3, Ab.getObj, ofCellsI_ints, hl, h1, h2, h3, ofIntsR_of hu, hz2, bnd_pos]

theorem rowH_spoil {objs : List AO} {v : V} {l : List Int} (h : rowH objs v l) (hl : l.length < 140737488355000) : ∃ r, k_Spoil [v] objs = some (.tup [], r) ∧ ((r = none ∧ l = []) ∨ ∃ id ver, v = .ref id ver 0 l.length 1 ∧ 0 < l.length ∧ r = some (objs.set id (.cells (ints .u8 (l.map spF)) ver), id)) := by
  rcases h with ⟨rfl, rfl⟩ | ⟨id, ver, rfl, hg⟩
  · exact ⟨none, by simp [k_Spoil], .inl ⟨rfl, rfl⟩⟩
  · by_cases hz : l.length = 0
    · obtain rfl := List.eq_nil_of_length_eq_zero hz
      exact ⟨none, by simp [k_Spoil, hg, ofCellsI_ints, bnd_pos], .inl ⟨rfl, rfl⟩⟩
    · have hz2 : ¬ l = [] := fun q => hz (by rw [q]; rfl)
      exact ⟨_, by simp [k_Spoil, hg, ofCellsI_ints, bnd_pos, hl, hz2], .inr ⟨id, ver, rfl, by omega, rfl⟩⟩
def lens (ls : List (List Int)) : Nat := (ls.map fun l => l.length + 70).sum
theorem lens_take {ls : List (List Int)} : ∀ {i : Nat}, i < ls.length → lens (ls.take (i + 1)) = lens (ls.take i) + ((nth ls i).length + 70) := by
  intro i hi
  unfold lens
  rw [take_nth hi, List.map_append, List.sum_append]; simp
theorem lens_le {ls : List (List Int)} (i : Nat) : lens (ls.take i) ≤ lens ls := by
  unfold lens
  have e : ls.map (fun l => l.length + 70) = (ls.take i).map (fun l => l.length + 70) ++ (ls.drop i).map (fun l => l.length + 70) := by rw [← List.map_append, List.take_append_drop]
  rw [e, List.sum_append]; omega
theorem lens_mem {ls : List (List Int)} {i : Nat} (h : i < ls.length) : (nth ls i).length + 70 ≤ lens ls := by
  have h1 := lens_take h
  have h2 := lens_le (ls := ls) (i + 1)
  omega
theorem lens_count {ls : List (List Int)} : ls.length * 70 ≤ lens ls := by
  unfold lens
  induction ls with
  | nil => simp
  | cons a l ih => simp only [List.map_cons, List.sum_cons, List.length_cons]; omega
def p_ApartAll : List V → List AO → Rs → Prop := fun args objs r => match args with | [v, _] => ∃ objs' low', r = (.bool true, some (objs', low')) ∧ ∀ vs ls, Sl v vs ls.length → Held objs vs ls → Spoiled spF objs vs ls objs' | _ => False
noncomputable def k_ApartAll : Ab.Spec := relF (fun a o r => p_ApartAll a o r ∧ EndsW Tryd.prog (annOf [] [] [] true [63]) T_Apart 29 Tryd.f29 a o r)
noncomputable def T_ApartAll : CallF := withF T_Apart 29 k_ApartAll
theorem T_ApartAll_ok : CallOk Tryd.prog T_ApartAll := con_ofW (A := annOf [] [] [] true [63]) fit T_Apart_ok (fn := Tryd.f29) (by kernel_rfl) (by kernel_rfl) (fun args objs r h0 => (relF_inv h0).2)
theorem s_ApartAll  {objs : List AO} {v w : V} {vs ws : List V} {ls : List (List Int)} (hv : Sl v vs ls.length) (hw : Sl w ws ls.length) (hws : ∀ i, i < ls.length → ∃ c, ws[i]? = some c ∧ ofInts .u8 c = some (nth ls i)) (hH : Held objs vs ls) (hsum : lens ls < 140737488354000) : ∃ r, k_ApartAll [v, w] objs = some r ∧ p_ApartAll [v, w] objs r := by
  have c_SameR : ∀ a o, T_Apart 49 a o = k_SameR a o := fun _ _ => rfl
  have c_TurnedR : ∀ a o, T_Apart 64 a o = k_TurnedR a o := fun _ _ => rfl
  have c_Spoil : ∀ a o, T_Apart 63 a o = k_Spoil a o := fun _ _ => rfl
  refine rel_go _ rfl rfl ?_
  have vd := hv.dem
  have wd := hw.dem
  have vn := hv.size u53
  have wn := hw.size u53
  have vi := hv.idx u53 z59
  have wi := hw.idx u53 z59
  have hcn := lens_count (ls := ls)
  have row : ∀ i, i < ls.length → ∃ a c, vs[i]? = some a ∧ (∀ h : i < vs.length, vs[i]'h = a) ∧ rowH objs a (nth ls i) ∧ ws[i]? = some c ∧ (∀ h : i < ws.length, ws[i]'h = c) ∧ ofInts .u8 c = some (nth ls i) ∧ demote a = a ∧ demote c = c := by
    intro i hi
    obtain ⟨a, a1, a2⟩ := hH.row i hi
    obtain ⟨c, c1, c2⟩ := hws i hi
    exact ⟨a, c, a1, of_get a1, a2, c1, of_get c1, c2, a2.one.1, (bs c2).1⟩
  refine .thenT ?_
  simp
  refine .thenT ?_
  simp -implicitDefEqProofs (disch := omega) [vn, wn]
  refine .then (.thenT ?_)
  simp -implicitDefEqProofs (disch := omega)
  refine .of ?_
  simp -implicitDefEqProofs
  refine .up ls.length (fun i s => s.env 0 = v ∧ s.env 1 = w ∧ s.env 5 = .int .i64 i ∧ s.toks = [] ∧ s.objs = objs ∧ s.low = objs.length) (by simp) ?_
  rintro i s hi ⟨h0, h1, h5, ht, ho, hlo⟩
  rcases Nat.lt_or_ge i ls.length with h | h
  · obtain ⟨a, c, a1, a1', a2, c1, c1', c2, ad, cd⟩ := row i h
    have ea := a2.bytes
    have ec := ofIntsR_of (objs := objs) c2
    have hl := lens_mem h
    have e1 := vi .i64 i (by omega) (by omega)
    have e2 := wi .i64 i (by omega) (by omega)
    rw [Int.toNat_natCast, Nat.mul_one] at e1 e2
    simp -implicitDefEqProofs (disch := omega) [h0, h1, h5, ht, ho, hlo, vn, wn, e1, e2, h, a1, a1', c1, c1', ad, cd, c_SameR, k_SameR, ea, ec, wrap_small]
  obtain rfl : i = ls.length := by omega
  simp -implicitDefEqProofs (disch := omega) [h0, h1, h5, ht, ho, hlo, vn, wn]
  refine .then (.thenT ?_)
  simp -implicitDefEqProofs (disch := omega)
  refine .of ?_
  simp -implicitDefEqProofs
  refine .up ls.length (fun i s => s.env 0 = v ∧ s.env 1 = w ∧ s.env 6 = .int .i64 i ∧ s.toks = [] ∧ s.objs.length = objs.length ∧ Held s.objs vs (spoilUp spF ls i) ∧ ∀ id ver, (∀ v, v ∈ vs → idOf v ≠ some id) → Ab.getObj s.objs id ver = Ab.getObj objs id ver) (by simp [h0, h1, ht, ho, spoilUp_zero, hH]) ?_
  rintro i s hi ⟨h0, h1, h6, ht, hlen, hHi, hoth⟩
  rcases Nat.lt_or_ge i ls.length with h | h
  · obtain ⟨a, a1, a2⟩ := hHi.row i (by rw [spoilUp_len (by omega)]; exact h)
    rw [spoilUp_ge (Nat.le_refl i) (by omega)] at a2
    have a1' := of_get a1
    have ad := a2.one.1
    have hl := lens_mem h
    have e1 := vi .i64 i (by omega) (by omega)
    rw [Int.toNat_natCast, Nat.mul_one] at e1
    obtain ⟨r, k1, k2⟩ := rowH_spoil a2 (by omega)
    rcases k2 with ⟨rfl, k3⟩ | ⟨id, ver, rfl, hpos, rfl⟩
    · have hH2 := hHi.spoil_nil h k3
      simp -implicitDefEqProofs (disch := omega) [h0, h1, h6, ht, vn, e1, h, a1, a1', ad, c_Spoil, k1, wrap_small, hlen, hH2]
      exact fun id ver hx => hoth id ver hx
    · have hH2 := hHi.spoil h a1
      have hnl : ¬ ((if id < s.low then id else s.low) < 0) := by omega
      simp -implicitDefEqProofs (disch := omega) [h0, h1, h6, ht, vn, e1, h, a1, a1', ad, c_Spoil, k1, wrap_small, hlen, hH2]
      intro id' ver' hx
      rw [getObj_set_ne (fun q => ?_)]
      · exact hoth id' ver' hx
      · exact hx _ (List.mem_of_getElem? a1) (by rw [← q]; rfl)
  obtain rfl : i = ls.length := by omega
  rw [spoilUp_all] at hHi
  obtain ⟨objs2, ho⟩ : ∃ o, o = s.objs := ⟨_, rfl⟩
  rw [← ho] at hlen hHi hoth
  have ho := ho.symm
  simp -implicitDefEqProofs (disch := omega) [h0, h1, h6, ht, ho, vn, wn]
  refine .thenT ?_
  simp -implicitDefEqProofs
  refine .then (.thenT ?_)
  simp -implicitDefEqProofs
  refine .block (.up ls.length (fun i s => s.env 0 = v ∧ s.env 1 = w ∧ s.env 7 = .int .i64 (lens (ls.take i)) ∧ s.env 8 = .int .i64 i ∧ s.toks = [] ∧ s.objs = objs2) (by simp [h0, h1, ht, ho, lens]) ?_)
  rintro i s hi ⟨h0, h1, h7, h8, ht, ho⟩
  rcases Nat.lt_or_ge i ls.length with h | h
  · obtain ⟨a, a1, a2⟩ := hHi.row i (by simpa using h)
    have hnm : nth (ls.map fun l => l.map spF) i = (nth ls i).map spF := nth_map h
    rw [hnm] at a2
    have a1' := of_get a1
    have ad := a2.one.1
    have hl := lens_mem h
    have hlt := lens_take h
    have hle := lens_le (ls := ls) (i + 1)
    have e1 := vi .i64 i (by omega) (by omega)
    rw [Int.toNat_natCast, Nat.mul_one] at e1
    refine .thenT ?_
    simp -implicitDefEqProofs (disch := omega) [h0, h1, h7, h8, ht, ho, vn, h]
    refine .then (.block (.thenT ?_))
    simp -implicitDefEqProofs (disch := omega) [h0, h1, h7, h8, ht, ho, e1, a1, a1', ad]
    refine .then (.thenT ?_)
    simp -implicitDefEqProofs (disch := omega) [h0, h1, h7, h8, ht, ho]
    have hbase : Base objs2 a (nth ls i).length := by
      rcases a2 with ⟨q1, q2⟩ | ⟨id, ver, q1, q2⟩
      · exact .inl ⟨q1, by have := congrArg List.length q2; simpa using this⟩
      · exact .inr ⟨id, ver, _, by rw [q1, List.length_map], q2, by simp⟩
    refine .cut (grow_block (N := 70) (n := (nth ls i).length) (X := fun a => ∃ m, a.eval (.tmp 8) = .int .i64 m) (LB := [9, 64, 63, 62, 61, 60, 59, 58]) (by omega) (by omega) (by simpa [put_get] using hbase) rfl (fun G tl E w a hE => ?_) (fun a a' hk ⟨m, hm⟩ => ⟨m, by rw [hk.2.2 8 (by decide)]; exact hm⟩) (body_byte2 u59 (by kernel_rfl) v5 u3 u5 (by omega) (by decide) (by decide)) (by simp) (by decide) (by decide)) ?_
    · have q := (hE 8).1
      simp [put_get, h8] at q
      exact ⟨i, by simpa [Act.eval] using q.int_inv⟩
    show ToW _ _ _ _ _ _ _ _
    refine .of ?_
    simp -implicitDefEqProofs (disch := omega) [grownEnv, h0, h1, h7, h8, ht, ho]
    refine .of ?_
    simp -implicitDefEqProofs (disch := omega) [grownEnv, h0, h1, h7, h8, ht, ho, h, wrap_small]
    omega
  obtain rfl : i = ls.length := by omega
  rw [List.take_length] at h7
  refine .thenT ?_
  simp -implicitDefEqProofs (disch := omega) [h0, h1, h7, h8, ht, ho, vn]
  refine .then (.thenT ?_)
  simp -implicitDefEqProofs (disch := omega) [h0, h1, h7, h8, ht, ho]
  refine .of ?_
  simp -implicitDefEqProofs
  refine .up ls.length (fun i s => s.env 0 = v ∧ s.env 1 = w ∧ s.env 7 = .int .i64 (lens ls) ∧ s.env 11 = .int .i64 i ∧ s.toks = [] ∧ s.objs = objs2) (by simp [h0, h1, h7, ht, ho]) ?_
  rintro i s hi ⟨h0, h1, h7, h11, ht, ho⟩
  rcases Nat.lt_or_ge i ls.length with h | h
  · obtain ⟨a, a1, a2⟩ := hHi.row i (by simpa using h)
    obtain ⟨_, c, _, _, _, c1, c1', c2, _, cd⟩ := row i h
    have hnm : nth (ls.map fun l => l.map spF) i = (nth ls i).map spF := nth_map h
    rw [hnm] at a2
    have a1' := of_get a1
    have ad := a2.one.1
    have ea := a2.bytes
    have ec := ofIntsR_of (objs := objs2) c2
    have hl := lens_mem h
    have e1 := vi .i64 i (by omega) (by omega)
    have e2 := wi .i64 i (by omega) (by omega)
    rw [Int.toNat_natCast, Nat.mul_one] at e1 e2
    simp -implicitDefEqProofs (disch := omega) [h0, h1, h7, h11, ht, ho, vn, wn, e1, e2, h, a1, a1', c1, c1', ad, cd, c_TurnedR, k_TurnedR, ea, ec, wrap_small]
  obtain rfl : i = ls.length := by omega
  have hge : ((lens ls : Nat) : Int) ≥ 0 := by omega
  simp -implicitDefEqProofs (disch := omega) [h0, h1, h7, h11, ht, ho, vn, wn]
  refine .of ?_
  simp -implicitDefEqProofs (disch := omega) [h0, h1, h7, h11, ht, ho, hge]
  refine ⟨objs2, _, rfl, fun vs' ls' h1 h2 => ?_⟩
  obtain ⟨rfl, -⟩ := hv.inj h1
  obtain rfl := hH.inj h2
  exact ⟨hlen, hHi, hoth⟩

end Go.Proofs.YtnbgmclbbkfhhaaDoor.B
set_option maxRecDepth 20000
set_option maxHeartbeats 1000000
namespace Go.Proofs.YtnbgmclbbkfhhaaDoor.B
open Go Go.Ab
/-! numbers in few bytes, plain mathematics (turned from wip/blocks) -/
namespace M
open Go.RowKit
theorem w64 {x : Int} (h0 : -9223372036854775808 ≤ x) (h1 : x ≤ 9223372036854775807) : wrap64 x = x := by
  unfold wrap64; omega
theorem u64r (x : Int) : IntKind.u64.wrap x = x % 18446744073709551616 := by
  simp [IntKind.wrap, IntKind.bits, IntKind.signed]
theorem u32r (x : Int) : IntKind.u32.wrap x = x % 4294967296 := by
  simp [IntKind.wrap, IntKind.bits, IntKind.signed]
theorem u64w {x : Int} (h0 : 0 ≤ x) (h1 : x < 18446744073709551616) : IntKind.u64.wrap x = x := by
  rw [u64r]; omega
theorem wsucc {i : Nat} (h : i < 9223372036854775807) : wrap64 ((i : Int) + 1) = ((i + 1 : Nat) : Int) := by
  unfold wrap64; omega
theorem byteWf {x : Int} (h : (Lit.int .u8 x).wf = true) : 0 ≤ x ∧ x < 256 := by
  simp [Lit.wf, IntKind.min, IntKind.max, IntKind.signed, IntKind.bits] at h
  omega
theorem u64Wf {x : Int} (h : (Lit.int .u64 x).wf = true) : 0 ≤ x ∧ x < 18446744073709551616 := by
  simp [Lit.wf, IntKind.min, IntKind.max, IntKind.signed, IntKind.bits] at h
  omega
theorem i64Wf {x : Int} (h : (Lit.int .i64 x).wf = true) : -9223372036854775808 ≤ x ∧ x < 9223372036854775808 := by
  simp [Lit.wf, IntKind.min, IntKind.max, IntKind.signed, IntKind.bits] at h
  omega
def Bytes (l : List Int) : Prop := ∀ x ∈ l, 0 ≤ x ∧ x < 256
def U64s (l : List Int) : Prop := ∀ x ∈ l, 0 ≤ x ∧ x < 18446744073709551616
theorem bytesWf {l : List Int} (h : ∀ x ∈ l, (Lit.int .u8 x).wf = true) : Bytes l := fun x hx => byteWf (h x hx)
theorem u64sWf {l : List Int} (h : ∀ x ∈ l, (Lit.int .u64 x).wf = true) : U64s l := fun x hx => u64Wf (h x hx)
theorem Bytes.app {a b : List Int} (ha : Bytes a) (hb : Bytes b) : Bytes (a ++ b) := fun x hx => (List.mem_append.1 hx).elim (ha x) (hb x)
theorem Bytes.left {a b : List Int} (h : Bytes (a ++ b)) : Bytes a := fun x hx => h x (List.mem_append_left _ hx)
theorem Bytes.right {a b : List Int} (h : Bytes (a ++ b)) : Bytes b := fun x hx => h x (List.mem_append_right _ hx)
theorem Bytes.drop {a : List Int} (h : Bytes a) (n : Nat) : Bytes (a.drop n) := fun x hx => h x (List.mem_of_mem_drop hx)
theorem Bytes.take {a : List Int} (h : Bytes a) (n : Nat) : Bytes (a.take n) := fun x hx => h x (List.mem_of_mem_take hx)
theorem U64s.drop {a : List Int} (h : U64s a) (n : Nat) : U64s (a.drop n) := fun x hx => h x (List.mem_of_mem_drop hx)
theorem U64s.take {a : List Int} (h : U64s a) (n : Nat) : U64s (a.take n) := fun x hx => h x (List.mem_of_mem_take hx)
theorem drop_cons {l : List Int} {i : Nat} (h : i < l.length) : l.drop i = l[i] :: l.drop (i + 1) := List.drop_eq_getElem_cons h
theorem take_succ_snoc {l : List Int} {i : Nat} (h : i < l.length) : l.take (i + 1) = l.take i ++ [l[i]] := by rw [List.take_add_one, List.getElem?_eq_getElem h]; rfl
theorem pow_pos' (n : Nat) : (0 : Int) < 128 ^ n := Int.pow_pos (by decide)
theorem pow128 (n : Nat) : (128 : Int) ^ n = 2 ^ (7 * n) := by rw [Int.pow_mul]; rfl
theorem ipow_le {b : Int} (hb : 1 ≤ b) {m n : Nat} (h : m ≤ n) : b ^ m ≤ b ^ n := by
  obtain ⟨a, rfl⟩ := Int.eq_ofNat_of_zero_le (show 0 ≤ b by omega)
  exact_mod_cast Nat.pow_le_pow_right (by omega) h
theorem wraps_u64 (n : Int) (h0 : 0 ≤ n) (h1 : n < 2 ^ 64) : IntKind.u64.wrap n = n := by
  rw [u64r]; omega
theorem and127 {x : Int} (h0 : 0 ≤ x) (h1 : x < 256) : Go.bits .and .u8 x 127 = x % 128 := Go.bits_mask .u8 8 (by decide) Go.wraps_u8 7 (by decide) x h0 h1
theorem or_low {j : Nat} {x y : Int} (hx0 : 0 ≤ x) (hx : x < 2 ^ j) (hy0 : 0 ≤ y) (hb : x + y * 2 ^ j < 2 ^ 64) :
    Go.bits .or .u64 x (y * 2 ^ j) = x + y * 2 ^ j := by
  have hp : (0 : Int) < 2 ^ j := Int.pow_pos (by decide)
  obtain ⟨a, rfl⟩ := Int.eq_ofNat_of_zero_le hx0
  obtain ⟨b, rfl⟩ := Int.eq_ofNat_of_zero_le hy0
  have ha : a < 2 ^ j := by exact_mod_cast hx
  have hab : a + b * 2 ^ j < 2 ^ 64 := by exact_mod_cast hb
  have e : ((b : Int) * 2 ^ j) = ((2 ^ j * b : Nat) : Int) := by rw [Nat.mul_comm]; simp
  have hc : a + 2 ^ j * b < 2 ^ 64 := by rw [Nat.mul_comm]; exact hab
  rw [e, (Go.bits_nat .u64 64 (by decide) wraps_u64 a (2 ^ j * b) (by omega) (by omega)).2, Nat.or_comm, ← Nat.two_pow_add_eq_or_of_lt ha b]
  omega
def putL (u : Nat) : List Int := if u < 128 then [(u : Int)] else ((u % 128 + 128 : Nat) : Int) :: putL (u / 128)
theorem putL_small {u : Nat} (h : u < 128) : putL u = [(u : Int)] := by rw [putL, if_pos h]
theorem putL_big {u : Nat} (h : ¬ u < 128) : putL u = ((u % 128 + 128 : Nat) : Int) :: putL (u / 128) := by rw [putL, if_neg h]
def getL : List Int → Nat → Except Int (Int × Nat)
  | [], _ => .error 2
  | c :: r, i => if i = 9 ∧ c > 1 then .error 20 else if c ≥ 128 then (match getL r (i + 1) with | .ok (v, n) => .ok (c - 128 + 128 * v, n + 1) | .error e => .error e)
    else if c = 0 ∧ i > 0 then .error 5 else .ok (c, 1)
theorem putL_bytes (n : Nat) : ∀ u, u < n → Bytes (putL u) := by
  induction n with
  | zero => intro u h; omega
  | succ n ih =>
    intro u h
    by_cases hu : u < 128
    · rw [putL_small hu]; intro x hx; simp only [List.mem_singleton] at hx; omega
    · rw [putL_big hu]; intro x hx
      rcases List.mem_cons.1 hx with rfl | hx
      · omega
      · exact ih (u / 128) (by omega) x hx
theorem putL_pos (u : Nat) : 1 ≤ (putL u).length := by
  by_cases hu : u < 128
  · rw [putL_small hu]; simp
  · rw [putL_big hu]; simp
theorem putL_len (n : Nat) : ∀ u, u < n → u < 2 ^ (7 * (putL u).length) ∧ (2 ≤ (putL u).length → 2 ^ (7 * ((putL u).length - 1)) ≤ u) := by
  induction n with
  | zero => intro u h; omega
  | succ n ih =>
    intro u h
    by_cases hu : u < 128
    · rw [putL_small hu]; simp; omega
    · rw [putL_big hu]
      obtain ⟨h1, h2⟩ := ih (u / 128) (by omega)
      have hp := putL_pos (u / 128)
      simp only [List.length_cons, Nat.add_sub_cancel]
      have e : 2 ^ (7 * ((putL (u / 128)).length + 1)) = 2 ^ (7 * (putL (u / 128)).length) * 128 := by rw [Nat.mul_add, Nat.pow_add]
      refine ⟨by rw [e]; omega, fun _ => ?_⟩
      by_cases hl : 2 ≤ (putL (u / 128)).length
      · have h3 := h2 hl
        have e2 : 2 ^ (7 * (putL (u / 128)).length) = 2 ^ (7 * ((putL (u / 128)).length - 1)) * 128 := by
          rw [show 7 * (putL (u / 128)).length = 7 * ((putL (u / 128)).length - 1) + 7 by omega, Nat.pow_add]
        rw [e2]; omega
      · rw [show (putL (u / 128)).length = 1 by omega]; omega
theorem putL_len_le {u j : Nat} (hj : 1 ≤ j) (h : u < 2 ^ (7 * j)) : (putL u).length ≤ j := by
  obtain ⟨_, h2⟩ := putL_len (u + 1) u (by omega)
  refine Decidable.byContradiction fun hc => ?_
  have h3 := h2 (by omega)
  have : 2 ^ (7 * j) ≤ 2 ^ (7 * ((putL u).length - 1)) := Nat.pow_le_pow_right (by decide) (by omega)
  omega
theorem putL_len10 {u : Nat} (h : u < 18446744073709551616) : (putL u).length ≤ 10 :=
  putL_len_le (by decide) (Nat.lt_trans h (by decide))
theorem putL_mono {u v : Nat} (h : u ≤ v) : (putL u).length ≤ (putL v).length := by
  obtain ⟨h1, _⟩ := putL_len (v + 1) v (by omega)
  exact putL_len_le (putL_pos v) (by omega)
theorem getL_ok : ∀ (b : List Int) (i : Nat) (v : Int) (n : Nat), Bytes b → i ≤ 9 → getL b i = .ok (v, n) →
    0 ≤ v ∧ v < 2 ^ (64 - 7 * i) ∧ 1 ≤ n ∧ n ≤ b.length ∧ n + i ≤ 10 := by
  intro b
  induction b with
  | nil => intro i v n _ _ h; simp [getL] at h
  | cons c r ih =>
    intro i v n hb hi h
    have hc := hb c (List.mem_cons_self)
    have hr : Bytes r := fun x hx => hb x (List.mem_cons_of_mem _ hx)
    rw [getL] at h
    by_cases h9 : i = 9 ∧ c > 1
    · rw [if_pos h9] at h; simp at h
    rw [if_neg h9] at h
    by_cases h128 : c ≥ 128
    · rw [if_pos h128] at h
      have hi8 : i + 1 ≤ 9 := by omega
      cases hg : getL r (i + 1) with
      | error e => rw [hg] at h; simp at h
      | ok p =>
        obtain ⟨v', n'⟩ := p
        rw [hg] at h
        simp only [Except.ok.injEq, Prod.mk.injEq] at h
        obtain ⟨rfl, rfl⟩ := h
        obtain ⟨g1, g2, g3, g4, g5⟩ := ih (i + 1) v' n' hr hi8 hg
        have e : (2 : Int) ^ (64 - 7 * i) = 2 ^ (64 - 7 * (i + 1)) * 128 := by
          rw [show 64 - 7 * i = 64 - 7 * (i + 1) + 7 by omega, Int.pow_add]; rfl
        refine ⟨by omega, by rw [e]; omega, by omega, by simp only [List.length_cons]; omega, by omega⟩
    · rw [if_neg h128] at h
      by_cases h0 : c = 0 ∧ i > 0
      · rw [if_pos h0] at h; simp at h
      rw [if_neg h0] at h
      simp only [Except.ok.injEq, Prod.mk.injEq] at h
      obtain ⟨rfl, rfl⟩ := h
      refine ⟨by omega, ?_, by omega, by simp, by omega⟩
      by_cases hi9 : i = 9
      · subst hi9; have : ¬ c > 1 := fun h => h9 ⟨rfl, h⟩; simp; omega
      · have : (2 : Int) ^ 8 ≤ 2 ^ (64 - 7 * i) := ipow_le (by decide) (by omega)
        omega
theorem getL_putL (n : Nat) : ∀ (u i : Nat) (rest : List Int), u < n → i ≤ 9 → u < 2 ^ (64 - 7 * i) → (i > 0 → u > 0) → getL (putL u ++ rest) i = .ok ((u : Int), (putL u).length) := by
  induction n with
  | zero => intro u i rest h; omega
  | succ n ih =>
    intro u i rest h hi hu hp
    by_cases hs : u < 128
    · rw [putL_small hs]
      simp only [List.singleton_append, getL, List.length_singleton]
      rw [if_neg, if_neg (by omega), if_neg (by omega)]
      rintro ⟨rfl, h1⟩
      simp at hu; omega
    · rw [putL_big hs]
      simp only [List.cons_append, getL, List.length_cons]
      have hi8 : i + 1 ≤ 9 := by
        refine Decidable.byContradiction fun hc => ?_
        have : i = 9 := by omega
        subst this; simp at hu; omega
      have e : (2 : Nat) ^ (64 - 7 * i) = 2 ^ (64 - 7 * (i + 1)) * 128 := by
        rw [show 64 - 7 * i = 64 - 7 * (i + 1) + 7 by omega, Nat.pow_add]
      rw [if_neg (by omega), if_pos (by omega), ih (u / 128) (i + 1) rest (by omega) hi8 (by omega) (by omega)]
      simp only [Except.ok.injEq, Prod.mk.injEq, and_true]
      omega
theorem getL_short (n : Nat) : ∀ (u i m : Nat), u < n → i ≤ 9 → u < 2 ^ (64 - 7 * i) → m < (putL u).length → getL ((putL u).take m) i = .error 2 := by
  induction n with
  | zero => intro u i m h; omega
  | succ n ih =>
    intro u i m h hi hu hm
    cases m with
    | zero => simp [getL]
    | succ m =>
      by_cases hs : u < 128
      · rw [putL_small hs] at hm; simp at hm
      · rw [putL_big hs] at hm ⊢
        simp only [List.length_cons] at hm
        simp only [List.take_succ_cons, getL]
        have hi8 : i + 1 ≤ 9 := by
          refine Decidable.byContradiction fun hc => ?_
          have : i = 9 := by omega
          subst this; simp at hu; omega
        have e : (2 : Nat) ^ (64 - 7 * i) = 2 ^ (64 - 7 * (i + 1)) * 128 := by
          rw [show 64 - 7 * i = 64 - 7 * (i + 1) + 7 by omega, Nat.pow_add]
        rw [if_neg (by omega), if_pos (by omega), ih (u / 128) (i + 1) m (by omega) hi8 (by omega) (by omega)]
theorem getL_only : ∀ (b : List Int) (i : Nat) (v : Int) (n : Nat), Bytes b → i ≤ 9 → getL b i = .ok (v, n) → putL v.toNat = b.take n ∧ (i > 0 → 0 < v) := by
  intro b
  induction b with
  | nil => intro i v n _ _ h; simp [getL] at h
  | cons c r ih =>
    intro i v n hb hi h
    have hc := hb c (List.mem_cons_self)
    have hr : Bytes r := fun x hx => hb x (List.mem_cons_of_mem _ hx)
    rw [getL] at h
    by_cases h9 : i = 9 ∧ c > 1
    · rw [if_pos h9] at h; simp at h
    rw [if_neg h9] at h
    by_cases h128 : c ≥ 128
    · rw [if_pos h128] at h
      have hi8 : i + 1 ≤ 9 := by omega
      cases hg : getL r (i + 1) with
      | error e => rw [hg] at h; simp at h
      | ok p =>
        obtain ⟨v', n'⟩ := p
        rw [hg] at h
        simp only [Except.ok.injEq, Prod.mk.injEq] at h
        obtain ⟨rfl, rfl⟩ := h
        obtain ⟨g1, g2⟩ := ih (i + 1) v' n' hr hi8 hg
        obtain ⟨q1, _⟩ := getL_ok r (i + 1) v' n' hr hi8 hg
        have g3 := g2 (by omega)
        refine ⟨?_, fun _ => by omega⟩
        rw [putL_big (by omega), show (c - 128 + 128 * v').toNat / 128 = v'.toNat by omega, g1, List.take_succ_cons]
        congr 1; omega
    · rw [if_neg h128] at h
      by_cases h0 : c = 0 ∧ i > 0
      · rw [if_pos h0] at h; simp at h
      rw [if_neg h0] at h
      simp only [Except.ok.injEq, Prod.mk.injEq] at h
      obtain ⟨rfl, rfl⟩ := h
      refine ⟨?_, by omega⟩
      rw [putL_small (by omega)]; simp; omega
def getR (b : List Int) (at_ : Int) : Int × Int × Int :=
  if at_ < 0 ∨ at_ > b.length then (0, 0, 1) else match getL (b.drop at_.toNat) 0 with
    | .ok (v, n) => (v, at_ + n, 0)
    | .error e => (0, 0, e)
theorem getL_err : ∀ (b : List Int) (i : Nat) (e : Int), getL b i = .error e → e = 2 ∨ e = 20 ∨ e = 5 := by
  intro b
  induction b with
  | nil => intro i e h; simp only [getL, Except.error.injEq] at h; omega
  | cons c r ih =>
    intro i e h
    rw [getL] at h
    split at h
    · simp only [Except.error.injEq] at h; omega
    split at h
    · split at h
      · simp at h
      · rename_i e' hg; simp only [Except.error.injEq] at h; subst h; exact ih _ _ hg
    split at h
    · simp only [Except.error.injEq] at h; omega
    · simp at h
theorem getR_ok {b : List Int} {at_ v nx : Int} (hb : Bytes b) (h : getR b at_ = (v, nx, 0)) :
    0 ≤ at_ ∧ at_ < nx ∧ nx ≤ b.length ∧ nx ≤ at_ + 10 ∧ 0 ≤ v ∧ v < 18446744073709551616 ∧ putL v.toNat = (b.take nx.toNat).drop at_.toNat := by
  unfold getR at h
  split at h
  · simp at h
  rename_i ha
  split at h
  · rename_i v' n hg
    simp only [Prod.mk.injEq, and_true] at h
    obtain ⟨rfl, rfl⟩ := h
    obtain ⟨g1, g2, g3, g4, g5⟩ := getL_ok _ 0 _ _ (hb.drop _) (by decide) hg
    obtain ⟨q1, _⟩ := getL_only _ 0 _ _ (hb.drop _) (by decide) hg
    rw [List.length_drop] at g4
    refine ⟨by omega, by omega, by omega, by omega, g1, by simpa using g2, ?_⟩
    rw [q1, List.drop_take, show (at_ + (n : Int)).toNat - at_.toNat = n by omega]
  · rename_i e hg
    have := getL_err _ _ _ hg
    simp only [Prod.mk.injEq] at h
    omega
theorem getR_bad {b : List Int} {at_ v nx e : Int} (h : getR b at_ = (v, nx, e)) (he : e ≠ 0) : v = 0 ∧ nx = 0 := by
  unfold getR at h
  split at h
  · simp only [Prod.mk.injEq] at h; omega
  split at h
  · simp only [Prod.mk.injEq] at h; omega
  · simp only [Prod.mk.injEq] at h; omega
theorem getR_put (a c : List Int) {u : Nat} (hu : u < 18446744073709551616) : getR (a ++ putL u ++ c) (a.length : Int) = ((u : Int), (a.length : Int) + (putL u).length, 0) := by
  unfold getR
  rw [if_neg (by simp only [List.length_append]; omega), Int.toNat_natCast, List.append_assoc, List.drop_left, getL_putL (u + 1) u 0 c (by omega) (by decide) (by simpa using hu) (by omega)]
theorem getR_bad2 {b : List Int} {at_ : Int} (he : (getR b at_).2.2 ≠ 0) : (getR b at_).1 = 0 ∧ (getR b at_).2.1 = 0 := getR_bad (b := b) (at_ := at_) (v := (getR b at_).1) (nx := (getR b at_).2.1) (e := (getR b at_).2.2) rfl he
theorem i64_and7 {x : Int} (h0 : 0 ≤ x) (h1 : x < 9223372036854775808) : Go.bits .and .i64 x 7 = x % 8 :=
  Go.bits_mask .i64 63 (by decide) (fun n h0 h1 => by rw [Go.IntKind.wrap_i64]; omega) 3 (by decide) x h0 (by simpa using h1)
theorem u64_mask {x : Int} (h0 : 0 ≤ x) (h1 : x < 18446744073709551616) {i : Nat} (hi : i ≤ 64) : Go.bits .and .u64 x (2 ^ i - 1) = x % 2 ^ i :=
  Go.bits_mask .u64 64 (by decide) wraps_u64 i hi x h0 (by simpa using h1)
theorem or_low8 {j : Nat} {x y : Int} (hx0 : 0 ≤ x) (hx : x < 2 ^ j) (hy0 : 0 ≤ y) (hb : x + y * 2 ^ j < 2 ^ 8) :
    Go.bits .or .u8 x (y * 2 ^ j) = x + y * 2 ^ j := by
  have hp : (0 : Int) < 2 ^ j := Int.pow_pos (by decide)
  obtain ⟨a, rfl⟩ := Int.eq_ofNat_of_zero_le hx0
  obtain ⟨b, rfl⟩ := Int.eq_ofNat_of_zero_le hy0
  have ha : a < 2 ^ j := by exact_mod_cast hx
  have hab : a + b * 2 ^ j < 2 ^ 8 := by exact_mod_cast hb
  have e : ((b : Int) * 2 ^ j) = ((2 ^ j * b : Nat) : Int) := by rw [Nat.mul_comm]; simp
  have hc : a + 2 ^ j * b < 2 ^ 8 := by rw [Nat.mul_comm]; exact hab
  rw [e, (Go.bits_nat .u8 8 (by decide) Go.wraps_u8 a (2 ^ j * b) (by omega) (by omega)).2, Nat.or_comm, ← Nat.two_pow_add_eq_or_of_lt ha b]
  omega
theorem toNat_div2 {x : Int} (h0 : 0 ≤ x) (n : Nat) : (x / 2 ^ n).toNat = x.toNat / 2 ^ n := by
  obtain ⟨a, rfl⟩ := Int.eq_ofNat_of_zero_le h0
  rw [show (2 : Int) ^ n = ((2 ^ n : Nat) : Int) by simp, ← Int.natCast_ediv, Int.toNat_natCast, Int.toNat_natCast]
theorem toNat_mod2 {x : Int} (h0 : 0 ≤ x) (n : Nat) : (x % 2 ^ n).toNat = x.toNat % 2 ^ n := by
  obtain ⟨a, rfl⟩ := Int.eq_ofNat_of_zero_le h0
  rw [show (2 : Int) ^ n = ((2 ^ n : Nat) : Int) by simp, ← Int.natCast_emod, Int.toNat_natCast, Int.toNat_natCast]
theorem divmod2 {x : Int} (h0 : 0 ≤ x) (s t : Nat) : x / 2 ^ s % 2 ^ t = ((x.toNat / 2 ^ s % 2 ^ t : Nat) : Int) := by
  obtain ⟨a, rfl⟩ := Int.eq_ofNat_of_zero_le h0
  simp
theorem nat_xor_top {x : Nat} (j : Nat) (h : x < 2 ^ j) : x ^^^ 2 ^ j = x + 2 ^ j := by
  apply Nat.eq_of_testBit_eq
  intro i
  rw [Nat.testBit_xor, Nat.testBit_two_pow]
  rcases Nat.lt_trichotomy i j with hi | hi | hi
  · rw [Nat.add_comm, Nat.testBit_two_pow_add_gt hi, decide_eq_false (by omega)]; simp
  · subst hi
    rw [Nat.add_comm, Nat.testBit_two_pow_add_eq]; simp
  · have h1 : x + 2 ^ j < 2 ^ i := by
      have : 2 ^ (j + 1) ≤ 2 ^ i := Nat.pow_le_pow_right (by decide) hi
      rw [Nat.pow_succ] at this; omega
    rw [Nat.testBit_lt_two_pow h1, Nat.testBit_lt_two_pow (show x < 2 ^ i by omega), decide_eq_false (by omega)]; rfl
theorem nat_xor_top' {x : Nat} (j : Nat) (h : x < 2 ^ j) : (x + 2 ^ j) ^^^ 2 ^ j = x := by
  rw [← nat_xor_top j h, Nat.xor_assoc, Nat.xor_self, Nat.xor_zero]
theorem xor_u64_nat (a b : Nat) (ha : a < 2 ^ 64) (hb : b < 2 ^ 64) : Go.bits .xor .u64 (a : Int) (b : Int) = ((a ^^^ b : Nat) : Int) := by
  have hx := Nat.xor_lt_two_pow ha hb
  rw [show Go.bits .xor .u64 (a : Int) (b : Int) = IntKind.u64.wrap ((BitVec.ofInt 64 (a : Int) ^^^ BitVec.ofInt 64 (b : Int)).toNat : Int) from rfl, BitVec.ofInt_natCast, BitVec.ofInt_natCast, BitVec.toNat_xor, BitVec.toNat_ofNat, BitVec.toNat_ofNat, Nat.mod_eq_of_lt ha, Nat.mod_eq_of_lt hb]
  exact wraps_u64 _ (Int.natCast_nonneg _) (by exact_mod_cast hx)
theorem xor_zero {x : Int} (h0 : 0 ≤ x) (h1 : x < 18446744073709551616) : Go.bits .xor .u64 x 0 = x := by
  obtain ⟨a, rfl⟩ := Int.eq_ofNat_of_zero_le h0
  have := xor_u64_nat a 0 (by omega) (by decide)
  simpa using this
theorem xor_all {x : Int} (h0 : 0 ≤ x) (h1 : x < 18446744073709551616) : Go.bits .xor .u64 x 18446744073709551615 = 18446744073709551615 - x := by
  obtain ⟨a, rfl⟩ := Int.eq_ofNat_of_zero_le h0
  have e : BitVec.ofInt 64 18446744073709551615 = BitVec.allOnes 64 := by decide
  rw [show Go.bits .xor .u64 (a : Int) 18446744073709551615 = IntKind.u64.wrap ((BitVec.ofInt 64 (a : Int) ^^^ BitVec.ofInt 64 18446744073709551615).toNat : Int) from rfl, e, BitVec.ofInt_natCast, BitVec.xor_allOnes, BitVec.toNat_not, BitVec.toNat_ofNat,
    Nat.mod_eq_of_lt (show a < 2 ^ 64 by omega), wraps_u64 _ (by omega) (by omega)]; omega
theorem xor_top {x : Int} (h0 : 0 ≤ x) (h1 : x < 18446744073709551616) : Go.bits .xor .u64 x 9223372036854775808 = if x < 9223372036854775808 then x + 9223372036854775808 else x - 9223372036854775808 := by
  obtain ⟨a, rfl⟩ := Int.eq_ofNat_of_zero_le h0
  have h := xor_u64_nat a (2 ^ 63) (by omega) (by decide)
  rw [show ((2 ^ 63 : Nat) : Int) = 9223372036854775808 from rfl] at h
  rw [h]
  by_cases hc : a < 2 ^ 63
  · rw [nat_xor_top 63 hc, if_pos (by omega)]; omega
  · have := nat_xor_top' (x := a - 2 ^ 63) 63 (by omega)
    rw [show a - 2 ^ 63 + 2 ^ 63 = a by omega] at this
    rw [this, if_neg (by omega)]; omega
theorem i64_wrap_nat {n : Nat} (h : n < 2 ^ 64) : IntKind.i64.wrap (n : Int) = if n < 2 ^ 63 then (n : Int) else (n : Int) - 18446744073709551616 := by
  rw [Go.IntKind.wrap_i64]; split <;> omega
theorem xor_i64_zero {x : Int} (h0 : 0 ≤ x) (h1 : x < 9223372036854775808) : Go.bits .xor .i64 x 0 = x := by
  obtain ⟨a, rfl⟩ := Int.eq_ofNat_of_zero_le h0
  have e : BitVec.ofInt 64 0 = 0#64 := by decide
  rw [show Go.bits .xor .i64 (a : Int) 0 = IntKind.i64.wrap ((BitVec.ofInt 64 (a : Int) ^^^ BitVec.ofInt 64 0).toNat : Int) from rfl, e, BitVec.ofInt_natCast, BitVec.xor_zero, BitVec.toNat_ofNat, Nat.mod_eq_of_lt (show a < 2 ^ 64 by omega), i64_wrap_nat (by omega), if_pos (by omega)]
theorem xor_i64_all {x : Int} (h0 : 0 ≤ x) (h1 : x < 9223372036854775808) : Go.bits .xor .i64 x (-1) = -1 - x := by
  obtain ⟨a, rfl⟩ := Int.eq_ofNat_of_zero_le h0
  have e : BitVec.ofInt 64 (-1) = BitVec.allOnes 64 := by decide
  rw [show Go.bits .xor .i64 (a : Int) (-1) = IntKind.i64.wrap ((BitVec.ofInt 64 (a : Int) ^^^ BitVec.ofInt 64 (-1)).toNat : Int) from rfl, e, BitVec.ofInt_natCast, BitVec.xor_allOnes, BitVec.toNat_not, BitVec.toNat_ofNat, Nat.mod_eq_of_lt (show a < 2 ^ 64 by omega), i64_wrap_nat (by omega), if_neg (by omega)]; omega
def foldI (v : Int) : Int := if 0 ≤ v then 2 * v else -2 * v - 1
def unfoldI (u : Int) : Int := if u % 2 = 0 then u / 2 else -(u / 2) - 1
end M

/-! getting a number -/
theorem b8_bytes {l : List Int} (h : b8 l = true) : M.Bytes l := b8_iff.1 h
def resG (b : List Int) (a i : Nat) (u : Int) : Int × Int × Int := match M.getL (b.drop (a + i)) i with | .ok (v, n) => (u + v * 2 ^ (7 * i), (a : Int) + i + n, 0) | .error e => (0, 0, e)
theorem resG_zero {b : List Int} {a : Nat} (h : a ≤ b.length) : resG b a 0 0 = M.getR b a := by
  unfold resG M.getR
  rw [if_neg (by omega), Nat.add_zero, Int.toNat_natCast]
  cases M.getL (b.drop a) 0 with
  | error e => rfl
  | ok p => simp
theorem resG_end {b : List Int} {a i : Nat} {u : Int} (h : b.length ≤ a + i) : resG b a i u = (0, 0, 2) := by
  unfold resG; rw [List.drop_eq_nil_of_le h]; rfl
theorem drop_nth {b : List Int} {j : Nat} (h : j < b.length) : b.drop j = nth b j :: b.drop (j + 1) := by rw [nth_lt h]; exact List.drop_eq_getElem_cons h
theorem resG_wide {b : List Int} {a i : Nat} {u : Int} (h : a + i < b.length) (h9 : i = 9 ∧ nth b (a + i) > 1) : resG b a i u = (0, 0, 20) := by
  unfold resG; rw [drop_nth h, M.getL, if_pos h9]
theorem resG_more {b : List Int} {a i : Nat} {u : Int} (h : a + i < b.length) (h9 : ¬ (i = 9 ∧ nth b (a + i) > 1)) (hc : nth b (a + i) ≥ 128) (hc2 : nth b (a + i) < 256) : resG b a i u = resG b a (i + 1) (u + nth b (a + i) % 128 * 2 ^ (7 * i)) := by
  unfold resG
  rw [drop_nth h, M.getL, if_neg h9, if_pos hc, show a + (i + 1) = a + i + 1 by omega]
  cases M.getL (b.drop (a + i + 1)) (i + 1) with
  | error e => rfl
  | ok p =>
    obtain ⟨v, n⟩ := p
    have e : (2 : Int) ^ (7 * (i + 1)) = 128 * 2 ^ (7 * i) := by rw [Nat.mul_add, Int.pow_add, Int.mul_comm]; rfl
    have e2 : nth b (a + i) % 128 = nth b (a + i) - 128 := by omega
    simp only [Prod.mk.injEq, and_true]
    constructor
    · rw [e, e2, Int.add_mul, Int.add_assoc]
      congr 2
      rw [← Int.mul_assoc, Int.mul_comm v 128]
    · omega
theorem resG_form {b : List Int} {a i : Nat} {u : Int} (h : a + i < b.length) (hc : nth b (a + i) = 0) (hi : 0 < i) : resG b a i u = (0, 0, 5) := by
  unfold resG; rw [drop_nth h, M.getL, if_neg (by omega), if_neg (by omega), if_pos ⟨hc, hi⟩]
theorem resG_done {b : List Int} {a i : Nat} {u : Int} (h : a + i < b.length) (h9 : ¬ (i = 9 ∧ nth b (a + i) > 1)) (hc : ¬ nth b (a + i) ≥ 128) (h0 : 0 ≤ nth b (a + i)) (hz : ¬ (nth b (a + i) = 0 ∧ 0 < i)) : resG b a i u = (u + nth b (a + i) % 128 * 2 ^ (7 * i), (a : Int) + i + 1, 0) := by
  unfold resG; rw [drop_nth h, M.getL, if_neg h9, if_neg hc, if_neg hz]
  have : nth b (a + i) % 128 = nth b (a + i) := by omega
  rw [this]; rfl
theorem fitG {i : Nat} {u c : Int} (hi : i ≤ 9) (h9 : ¬ (i = 9 ∧ c > 1)) (hc0 : 0 ≤ c) (hc : c < 256) (hu0 : 0 ≤ u) (hu1 : u < 2 ^ (7 * i)) : 0 ≤ c % 128 * 2 ^ (7 * i) ∧ c % 128 * 2 ^ (7 * i) < 2 ^ 64 ∧ u + c % 128 * 2 ^ (7 * i) < 2 ^ 64 ∧ (c ≥ 128 ∨ True → u + c % 128 * 2 ^ (7 * i) < 2 ^ (7 * (i + 1))) := by
  have hm : c % 128 < 2 ^ (64 - 7 * i) := by
    by_cases hi9 : i = 9
    · subst hi9; have : ¬ c > 1 := fun h => h9 ⟨rfl, h⟩; simp; omega
    · have : (2 : Int) ^ 8 ≤ 2 ^ (64 - 7 * i) := M.ipow_le (by decide) (by omega)
      omega
  have hpos : (0 : Int) < 2 ^ (7 * i) := Int.pow_pos (by decide)
  have e64 : (2 : Int) ^ 64 = 2 ^ (64 - 7 * i) * 2 ^ (7 * i) := by rw [← Int.pow_add]; congr 1; omega
  have hmul : c % 128 * 2 ^ (7 * i) ≤ (2 ^ (64 - 7 * i) - 1) * 2 ^ (7 * i) := Int.mul_le_mul_of_nonneg_right (by omega) (Int.le_of_lt hpos)
  have hfit : u + c % 128 * 2 ^ (7 * i) < 2 ^ 64 := by
    rw [e64]; rw [Int.sub_mul] at hmul; omega
  have hge : 0 ≤ c % 128 * 2 ^ (7 * i) := Int.mul_nonneg (by omega) (Int.le_of_lt hpos)
  refine ⟨hge, by omega, hfit, fun _ => ?_⟩
  have e : (2 : Int) ^ (7 * (i + 1)) = 128 * 2 ^ (7 * i) := by rw [Nat.mul_add, Int.pow_add, Int.mul_comm]; rfl
  have : c % 128 * 2 ^ (7 * i) ≤ 127 * 2 ^ (7 * i) := Int.mul_le_mul_of_nonneg_right (by omega) (Int.le_of_lt hpos)
  omega
def getVR (l : List Int) (a : Int) : Option Res := some (.tup [.int .u64 (M.getR l a).1, .int .i64 (M.getR l a).2.1, .int .i64 (M.getR l a).2.2], none)
noncomputable def k_VGet : Ab.Spec := con2 (ofInts .u8) (ofInt .i64) fun l a _ => bnd l.length 140737488355328 (if b8 l = true then getVR l a else none)
noncomputable def T_VGet : CallF := withF T_ApartAll 71 k_VGet
theorem T_VGet_ok : CallOk Tryd.prog T_VGet := con_of (A := annOf [] [] [] false []) fit T_ApartAll_ok (fn := Tryd.f71) (by kernel_rfl) (by kernel_rfl) (by
  intro args objs r h0
  obtain ⟨v, _, l, a, rfl, ha, hb, hR⟩ := con2_inv h0
  obtain rfl := ofInt_inv hb
  obtain ⟨hl, hR⟩ := bnd_inv hR
  split at hR
  case isFalse => cases hR
  rename_i hb8
  cases hR
  obtain ⟨vd, vn, vi, -⟩ := bs ha
  have hby := b8_bytes hb8
  refine .go _ rfl rfl ?_
  by_cases hn : a < 0
  · have e : M.getR l a = (0, 0, 1) := by unfold M.getR; rw [if_pos (.inl hn)]
    simp (disch := omega) [vn, hn, e]
  by_cases hb2 : (l.length : Int) < a
  · have e : M.getR l a = (0, 0, 1) := by unfold M.getR; rw [if_pos (.inr hb2)]
    simp (disch := omega) [vn, hn, hb2, e]
  obtain ⟨A, rfl⟩ := Int.eq_ofNat_of_zero_le (show 0 ≤ a by omega)
  have hz := resG_zero (b := l) (a := A) (by omega)
  obtain ⟨R, hR⟩ : ∃ R, R = M.getR l A := ⟨_, rfl⟩
  rw [← hR] at hz ⊢
  have hnn : ¬ (A : Int) < 0 := hn
  simp (disch := omega) [vn, hb2]
  refine .up 10 (fun i s => s.env 0 = v ∧ s.env 1 = .int .i64 A ∧ s.env 8 = .int .i64 i ∧ i ≤ 9 ∧ s.toks = [] ∧ s.objs = objs ∧ s.low = objs.length ∧ ∃ u, s.env 7 = .int .u64 u ∧ 0 ≤ u ∧ u < 2 ^ (7 * i) ∧ resG l A i u = R) (by simpa using hz) ?_
  rintro i s hi ⟨g0, g1, g8, hi9, ht, ho, hlo, u, g7, hu0, hu1, hres⟩
  have wd : IntKind.i64.wrap ((l.length : Int) - A) = (l.length : Int) - A := wrap_small (by omega) (by omega)
  rcases Nat.lt_or_ge (A + i) l.length with h | h
  case inr =>
    rw [resG_end h] at hres
    subst hres
    simp -implicitDefEqProofs (disch := omega) [g0, g1, g8, g7, ht, ho, hlo, vn, wd]
  have w1 : IntKind.i64.wrap ((A : Int) + i) = (A : Int) + i := wrap_small (by omega) (by omega)
  have e1 := vi .i64 ((A : Int) + i) (by omega) (by omega)
  rw [toNat_add] at e1
  have hc := hby _ (nth_mem h)
  have hw := @resG_wide l A i u h
  have hm := @resG_more l A i u h
  have hf := @resG_form l A i u h
  have hd := @resG_done l A i u h
  have en := of_get (ints_nth (k := .u8) h)
  have en0 := ints_nth (k := .u8) h
  obtain ⟨c, hcc⟩ : ∃ c, c = nth l (A + i) := ⟨_, rfl⟩
  rw [← hcc] at hc hw hm hf hd en en0
  have w7 : IntKind.i64.wrap (7 * (i : Int)) = 7 * (i : Int) := wrap_small (by omega) (by omega)
  have w7u : IntKind.u64.wrap (7 * (i : Int)) = 7 * (i : Int) := wrap_u64 (by omega) (by omega)
  have hand : Go.bits .and .u8 c 127 = c % 128 := M.and127 hc.1 hc.2
  have wc : IntKind.u64.wrap (c % 128) = c % 128 := wrap_u64 (by omega) (by omega)
  have wi : IntKind.i64.wrap ((i : Int) + 1) = (i : Int) + 1 := wrap_small (by omega) (by omega)
  by_cases h9 : i = 9 ∧ c > 1
  · have e := hw h9
    rw [hres] at e
    subst e
    obtain ⟨h9i, h91⟩ := h9
    simp -implicitDefEqProofs (disch := omega) [g0, g1, g8, g7, ht, ho, hlo, vn, wd, w1, e1, en, en0, h91]
  obtain ⟨f0, f1, f2, f3⟩ := fitG hi9 h9 hc.1 hc.2 hu0 hu1
  have hmin : min (7 * (i : Int)).toNat 64 = 7 * i := by omega
  have h7n : ¬ 7 * (i : Int) < 0 := by omega
  have wsh : IntKind.u64.wrap (c % 128 * 2 ^ (7 * i)) = c % 128 * 2 ^ (7 * i) := wrap_u64 f0 (by omega)
  have hor : Go.bits .or .u64 u (c % 128 * 2 ^ (7 * i)) = u + c % 128 * 2 ^ (7 * i) := M.or_low hu0 hu1 (by omega) f2
  by_cases h128 : c ≥ 128
  · have e := hm h9 h128 hc.2
    rw [hres] at e
    have hi99 : i ≠ 9 := fun q => h9 ⟨q, by omega⟩
    simp -implicitDefEqProofs (disch := omega) [g0, g1, g8, g7, ht, ho, hlo, vn, wd, w1, e1, en, en0, hand, wc, w7, w7u, hmin, wsh, hor, wi, convV, h7n]
    exact ⟨by omega, by omega, by omega, f3 (.inr trivial), e.symm⟩
  by_cases hz0 : c = 0 ∧ 0 < i
  · have e := hf hz0.1 hz0.2
    rw [hres] at e
    subst e
    obtain ⟨hz1, hz2⟩ := hz0
    have hi99 : i ≠ 9 ∨ ¬ c > 1 := by omega
    by_cases hi9 : i = 9
    · have hc1 : ¬ c > 1 := fun q => h9 ⟨hi9, q⟩
      simp -implicitDefEqProofs (disch := omega) [g0, g1, g8, g7, ht, ho, hlo, vn, wd, w1, e1, en, en0, hand, wc, w7, w7u, hmin, wsh, hor, wi, convV, h7n]
    · simp -implicitDefEqProofs (disch := omega) [g0, g1, g8, g7, ht, ho, hlo, vn, wd, w1, e1, en, en0, hand, wc, w7, w7u, hmin, wsh, hor, wi, convV, h7n]
  · have e := hd h9 h128 hc.1 hz0
    rw [hres] at e
    subst e
    have wa : IntKind.i64.wrap ((A : Int) + i + 1) = (A : Int) + i + 1 := wrap_small (by omega) (by omega)
    by_cases hi9 : i = 9
    · have hc1 : ¬ c > 1 := fun q => h9 ⟨hi9, q⟩
      simp -implicitDefEqProofs (disch := omega) [g0, g1, g8, g7, ht, ho, hlo, vn, wd, w1, e1, en, en0, hand, wc, w7, w7u, hmin, wsh, hor, wi, convV, h7n, wa]
    · by_cases hc0 : c = 0
      · simp -implicitDefEqProofs (disch := omega) [g0, g1, g8, g7, ht, ho, hlo, vn, wd, w1, e1, en, en0, hand, wc, w7, w7u, hmin, wsh, hor, wi, convV, h7n, wa]
      · simp -implicitDefEqProofs (disch := omega) [g0, g1, g8, g7, ht, ho, hlo, vn, wd, w1, e1, en, en0, hand, wc, w7, w7u, hmin, wsh, hor, wi, convV, h7n, wa])

/-! putting a number -/
theorem or128 {x : Int} (h0 : 0 ≤ x) (h1 : x < 256) : Go.bits .or .u8 x 128 = x % 128 + 128 := by
  have : ∀ n : Fin 256, Go.bits .or .u8 ((n.val : Nat) : Int) 128 = ((n.val : Nat) : Int) % 128 + 128 := by decide +kernel
  have h := this ⟨x.toNat, by omega⟩
  rwa [show ((x.toNat : Nat) : Int) = x by omega] at h
def putVR (u : Int) : Option Res := if 0 ≤ u ∧ u < 18446744073709551616 then some (.lst (.fresh 1 true) (ints .u8 (M.putL u.toNat)) (M.putL u.toNat).length, none) else none
theorem putVR_nat {u : Nat} (h : u < 18446744073709551616) : putVR u = some (.lst (.fresh 1 true) (ints .u8 (M.putL u)) (M.putL u).length, none) := by
  unfold putVR; rw [if_pos (by omega), Int.toNat_natCast]
noncomputable def k_VPut : Ab.Spec := con1 (ofInt .u64) fun u _ => putVR u
noncomputable def T_VPut : CallF := withF T_VGet 68 k_VPut
theorem T_VPut_ok : CallOk Tryd.prog T_VPut := con_of (A := annOf [] [11,18] [] false []) fit T_VGet_ok (fn := Tryd.f68) (by kernel_rfl) (by kernel_rfl) (by
  intro args objs r h0
  obtain ⟨_, u0, rfl, hb, hR⟩ := con1_inv h0
  obtain rfl := ofInt_inv hb
  unfold putVR at hR
  split at hR
  case isFalse => cases hR
  rename_i hu
  obtain ⟨hu0, hu1⟩ := hu
  cases hR
  obtain ⟨U, rfl⟩ := Int.eq_ofNat_of_zero_le hu0
  rw [Int.toNat_natCast]
  have hlen := M.putL_len10 (u := U) (by omega)
  obtain ⟨W, hW⟩ : ∃ W, W = M.putL U := ⟨_, rfl⟩
  rw [← hW] at hlen ⊢
  refine .go _ rfl rfl ?_
  simp
  refine .dn U (fun n s => n ≤ U ∧ s.env 0 = .int .u64 n ∧ s.toks = [] ∧ s.low = objs.length ∧ ∃ p, p ++ M.putL n = W ∧ (p = [] ∧ s.env 3 = .nils ∧ s.objs = objs ∨ p ≠ [] ∧ s.env 3 = .ref objs.length (p.length - 1) 0 p.length 1 ∧ s.objs = objs ++ [.cells (ints .u8 p) (p.length - 1)])) (by simp; exact hW.symm) ?_
  rintro n s ⟨hnU, g0, ht, hlo, p, hp, h3⟩
  have hpl := congrArg List.length hp
  rw [List.length_append] at hpl
  have hpos := M.putL_pos n
  have wu8 : IntKind.u8.wrap (n : Int) = (n : Int) % 256 := rfl
  have hfd : (n : Int).fdiv 128 = ((n / 128 : Nat) : Int) := by rw [Int.fdiv_eq_ediv_of_nonneg _ (by decide)]; omega
  by_cases hn : n < 128
  · rw [M.putL_small hn] at hp
    have hwb : IntKind.u8.wrap (n : Int) = n := wrap_u8 (by omega) (by omega)
    have hge : ¬ (128 : Int) ≤ n := by omega
    rcases h3 with ⟨rfl, g3, ho⟩ | ⟨hne, g3, ho⟩
    · have hpW : W = [(n : Int)] := hp.symm
      subst hpW
      simp -implicitDefEqProofs (disch := omega) [g0, g3, ht, hlo, ho, hge, convV, hwb, blit1, getObj_last]
      exact rfl
    · obtain ⟨k, hk⟩ : ∃ k, p.length = k + 1 := ⟨p.length - 1, by have := List.length_pos_iff.2 hne; omega⟩
      rw [hk] at g3 ho
      have hWl : W.length = k + 2 := by rw [← hp]; simp [hk]
      have es : ints .u8 p ++ [.int .u8 n] = ints .u8 W := by rw [← hp]; simp [ints]
      simp -implicitDefEqProofs (disch := omega) [g0, g3, ht, hlo, ho, hge, convV, hwb, blit1, getObj_last, set_last, hk, es, hWl]
  · have hge : (128 : Int) ≤ n := by omega
    rw [M.putL_big hn] at hp
    have hor : Go.bits .or .u8 ((n : Int) % 256) 128 = ((n % 128 + 128 : Nat) : Int) := by rw [or128 (by omega) (by omega)]; omega
    have hp' : p ++ [((n % 128 + 128 : Nat) : Int)] ++ M.putL (n / 128) = W := by rw [List.append_assoc]; exact hp
    have hlt : n / 128 < n := by omega
    have hle : n / 128 ≤ U := by omega
    rcases h3 with ⟨rfl, g3, ho⟩ | ⟨hne, g3, ho⟩
    · simp -implicitDefEqProofs (disch := omega) [g0, g3, ht, hlo, ho, hge, convV, wu8, hor, hfd, blit1, getObj_last]
      exact ⟨n / 128, hlt, hle, by omega, [((n % 128 + 128 : Nat) : Int)], hp', by simp, ⟨rfl, rfl⟩, by simp [ints], rfl⟩
    · obtain ⟨k, hk⟩ : ∃ k, p.length = k + 1 := ⟨p.length - 1, by have := List.length_pos_iff.2 hne; omega⟩
      rw [hk] at g3 ho
      have es : ints .u8 p ++ [.int .u8 ((n % 128 + 128 : Nat) : Int)] = ints .u8 (p ++ [((n % 128 + 128 : Nat) : Int)]) := by simp [ints]
      simp -implicitDefEqProofs (disch := omega) [g0, g3, ht, hlo, ho, hge, convV, wu8, hor, hfd, blit1, getObj_last, set_last, hk]
      exact ⟨n / 128, hlt, hle, by omega, p ++ [((n % 128 + 128 : Nat) : Int)], hp', by simp, ⟨by simp [hk], by simp [hk]⟩, by simp, by simp [hk]⟩)
def foldVR (v : Int) : Option Res := if -9223372036854775808 ≤ v ∧ v < 9223372036854775808 then some (.int .u64 (M.foldI v), none) else none
noncomputable def k_Fold : Ab.Spec := con1 (ofInt .i64) fun v _ => foldVR v
noncomputable def T_Fold : CallF := withF T_VPut 83 k_Fold
theorem T_Fold_ok : CallOk Tryd.prog T_Fold := con_of (A := annOf [] [] [] false []) fit T_VPut_ok (fn := Tryd.f83) (by kernel_rfl) (by kernel_rfl) (by
  intro args objs r h0
  obtain ⟨_, v, rfl, hb, hR⟩ := con1_inv h0
  obtain rfl := ofInt_inv hb
  unfold foldVR at hR
  split at hR
  case isFalse => cases hR
  rename_i hu
  obtain ⟨hu0, hu1⟩ := hu
  cases hR
  refine .go _ rfl rfl ?_
  by_cases h : 0 ≤ v
  · have e1 : v.fdiv 9223372036854775808 = 0 := by rw [Int.fdiv_eq_ediv_of_nonneg _ (by decide)]; omega
    have e2 : IntKind.u64.wrap (IntKind.i64.wrap (v * 2)) = v * 2 := by
      have : IntKind.i64.wrap (v * 2) = Go.RowKit.wrap64 (v * 2) := by simp [IntKind.wrap, Go.RowKit.wrap64]; omega
      rw [this, M.u64r]; unfold Go.RowKit.wrap64; omega
    have e3 : M.foldI v = v * 2 := by unfold M.foldI; rw [if_pos h]; omega
    have e4 : IntKind.u64.wrap 0 = 0 := rfl
    have e5 : Go.bits .xor .u64 (v * 2) 0 = v * 2 := M.xor_zero (by omega) (by omega)
    simp -implicitDefEqProofs (disch := omega) [convV, e1, e2, e3, e4, e5]
  · have e1 : v.fdiv 9223372036854775808 = -1 := by rw [Int.fdiv_eq_ediv_of_nonneg _ (by decide)]; omega
    have e2 : IntKind.u64.wrap (IntKind.i64.wrap (v * 2)) = v * 2 + 18446744073709551616 := by
      have : IntKind.i64.wrap (v * 2) = Go.RowKit.wrap64 (v * 2) := by simp [IntKind.wrap, Go.RowKit.wrap64]; omega
      rw [this, M.u64r]; unfold Go.RowKit.wrap64; omega
    have e3 : M.foldI v = -2 * v - 1 := by unfold M.foldI; rw [if_neg h]
    have e4 : IntKind.u64.wrap (-1) = 18446744073709551615 := rfl
    have e5 : Go.bits .xor .u64 (v * 2 + 18446744073709551616) 18446744073709551615 = -2 * v - 1 := by rw [M.xor_all (by omega) (by omega)]; omega
    simp -implicitDefEqProofs (disch := omega) [convV, e1, e2, e3, e4, e5])

noncomputable def k_RGet : Ab.Spec := con2 (ofInts .u8) (ofInt .i64) fun l a _ => bnd l.length 140737488355328 (if b8 l = true then getVR l a else none)
noncomputable def T_RGet : CallF := withF T_Fold 72 k_RGet
theorem T_RGet_ok : CallOk Tryd.prog T_RGet := con_of (A := annOf [] [] [] false []) fit T_Fold_ok (fn := Tryd.f72) (by kernel_rfl) (by kernel_rfl) (by
  intro args objs r h0
  obtain ⟨v, _, l, a, rfl, ha, hb, hR⟩ := con2_inv h0
  obtain rfl := ofInt_inv hb
  obtain ⟨hl, hR⟩ := bnd_inv hR
  split at hR
  case isFalse => cases hR
  rename_i hb8
  cases hR
  obtain ⟨vd, vn, vi, -⟩ := bs ha
  have hby := b8_bytes hb8
  refine .go _ rfl rfl ?_
  by_cases hn : a < 0
  · have e : M.getR l a = (0, 0, 1) := by unfold M.getR; rw [if_pos (.inl hn)]
    simp (disch := omega) [vn, hn, e]
  by_cases hb2 : (l.length : Int) < a
  · have e : M.getR l a = (0, 0, 1) := by unfold M.getR; rw [if_pos (.inr hb2)]
    simp (disch := omega) [vn, hn, hb2, e]
  obtain ⟨A, rfl⟩ := Int.eq_ofNat_of_zero_le (show 0 ≤ a by omega)
  have hz := resG_zero (b := l) (a := A) (by omega)
  obtain ⟨R, hR⟩ : ∃ R, R = M.getR l A := ⟨_, rfl⟩
  rw [← hR] at hz ⊢
  have hnn : ¬ (A : Int) < 0 := hn
  simp (disch := omega) [vn, hb2]
  refine .up 10 (fun i s => s.env 0 = v ∧ s.env 1 = .int .i64 A ∧ s.env 9 = .int .i64 (A + i) ∧ i ≤ 9 ∧ s.toks = [] ∧ s.objs = objs ∧ s.low = objs.length ∧ s.env 8 = .int .u64 (2 ^ (7 * i)) ∧ ∃ u, s.env 7 = .int .u64 u ∧ 0 ≤ u ∧ u < 2 ^ (7 * i) ∧ resG l A i u = R) (by simpa using hz) ?_
  rintro i s hi ⟨g0, g1, g9, hi9, ht, ho, hlo, g8, u, g7, hu0, hu1, hres⟩
  rcases Nat.lt_or_ge (A + i) l.length with h | h
  case inr =>
    rw [resG_end h] at hres
    subst hres
    simp -implicitDefEqProofs (disch := omega) [g0, g1, g8, g9, g7, ht, ho, hlo, vn]
  have e1 := vi .i64 ((A : Int) + i) (by omega) (by omega)
  rw [toNat_add] at e1
  have hc := hby _ (nth_mem h)
  have hw := @resG_wide l A i u h
  have hm := @resG_more l A i u h
  have hf := @resG_form l A i u h
  have hd := @resG_done l A i u h
  have en := of_get (ints_nth (k := .u8) h)
  have en0 := ints_nth (k := .u8) h
  obtain ⟨c, hcc⟩ : ∃ c, c = nth l (A + i) := ⟨_, rfl⟩
  rw [← hcc] at hc hw hm hf hd en en0
  have wcu : IntKind.u64.wrap c = c := wrap_u64 (by omega) (by omega)
  have wd : IntKind.i64.wrap ((A : Int) + i - A) = i := by rw [wrap_small (by omega) (by omega)]; omega
  have ht128 : c.tmod 128 = c % 128 := Int.tmod_eq_emod_of_nonneg hc.1
  have wi : IntKind.i64.wrap ((A : Int) + i + 1) = (A : Int) + (i + 1) := by rw [wrap_small (by omega) (by omega)]; omega
  have wi2 : IntKind.i64.wrap ((A : Int) + i + 1) = (A : Int) + i + 1 := wrap_small (by omega) (by omega)
  by_cases h9 : i = 9 ∧ c > 1
  · have e := hw h9
    rw [hres] at e
    subst e
    obtain ⟨h9i, h91⟩ := h9
    simp -implicitDefEqProofs (disch := omega) [g0, g1, g8, g9, g7, ht, ho, hlo, vn, wd, e1, en, en0, convV, wcu, h91]
  obtain ⟨f0, f1, f2, f3⟩ := fitG hi9 h9 hc.1 hc.2 hu0 hu1
  have wsh : IntKind.u64.wrap (c % 128 * 2 ^ (7 * i)) = c % 128 * 2 ^ (7 * i) := wrap_u64 f0 (by omega)
  have wad : IntKind.u64.wrap (u + c % 128 * 2 ^ (7 * i)) = u + c % 128 * 2 ^ (7 * i) := wrap_u64 (by omega) (by omega)
  by_cases h128 : c ≥ 128
  · have e := hm h9 h128 hc.2
    rw [hres] at e
    have hi99 : i ≠ 9 := fun q => h9 ⟨q, by omega⟩
    have hlt : ¬ c < 128 := by omega
    have hp : (2 : Int) ^ (7 * (i + 1)) = 2 ^ (7 * i) * 128 := by rw [Nat.mul_add, Int.pow_add]; rfl
    have hpb : (2 : Int) ^ (7 * (i + 1)) ≤ 2 ^ 63 := M.ipow_le (by decide) (by omega)
    have hpp : (0 : Int) < 2 ^ (7 * (i + 1)) := Int.pow_pos (by decide)
    have ww : IntKind.u64.wrap (2 ^ (7 * i) * 128) = 2 ^ (7 * (i + 1)) := by rw [← hp]; exact wrap_u64 (by omega) (by omega)
    simp -implicitDefEqProofs (disch := omega) [g0, g1, g8, g9, g7, ht, ho, hlo, vn, wd, e1, en, en0, convV, wcu, ht128, wsh, wad, wi, ww, hlt]
    exact ⟨by omega, by omega, by omega, f3 (.inr trivial), e.symm⟩
  have hlt : c < 128 := by omega
  by_cases hz0 : c = 0 ∧ 0 < i
  · have e := hf hz0.1 hz0.2
    rw [hres] at e
    subst e
    obtain ⟨hz1, hz2⟩ := hz0
    have hgt : (A : Int) + i > A := by omega
    by_cases hi9 : i = 9
    · simp -implicitDefEqProofs (disch := omega) [g0, g1, g8, g9, g7, ht, ho, hlo, vn, wd, e1, en, en0, convV, wcu, ht128, wsh, wad, hlt, hgt]
    · simp -implicitDefEqProofs (disch := omega) [g0, g1, g8, g9, g7, ht, ho, hlo, vn, wd, e1, en, en0, convV, wcu, ht128, wsh, wad, hlt, hgt]
  · have e := hd h9 h128 hc.1 hz0
    rw [hres] at e
    subst e
    by_cases hi9 : i = 9
    · have hc1 : ¬ c > 1 := fun q => h9 ⟨hi9, q⟩
      have hc0 : c ≠ 0 := fun q => hz0 ⟨q, by omega⟩
      simp -implicitDefEqProofs (disch := omega) [g0, g1, g8, g9, g7, ht, ho, hlo, vn, wd, e1, en, en0, convV, wcu, ht128, wsh, wad, wi2, hlt]
    · by_cases hc0 : c = 0
      · have hi0 : ¬ (A : Int) + i > A := by omega
        simp -implicitDefEqProofs (disch := omega) [g0, g1, g8, g9, g7, ht, ho, hlo, vn, wd, e1, en, en0, convV, wcu, ht128, wsh, wad, wi2, hlt, hi0]
      · simp -implicitDefEqProofs (disch := omega) [g0, g1, g8, g9, g7, ht, ho, hlo, vn, wd, e1, en, en0, convV, wcu, ht128, wsh, wad, wi2, hlt])
def unfR (u : Int) : Option Res := if 0 ≤ u ∧ u < 18446744073709551616 then some (.int .i64 (M.unfoldI u), none) else none
noncomputable def k_Unfold : Ab.Spec := con1 (ofInt .u64) fun u _ => unfR u
noncomputable def T_Unfold : CallF := withF T_RGet 95 k_Unfold
theorem T_Unfold_ok : CallOk Tryd.prog T_Unfold := con_of (A := annOf [] [] [] false []) fit T_RGet_ok (fn := Tryd.f95) (by kernel_rfl) (by kernel_rfl) (by
  intro args objs r h0
  obtain ⟨_, u, rfl, hb, hR⟩ := con1_inv h0
  obtain rfl := ofInt_inv hb
  unfold unfR at hR
  split at hR
  case isFalse => cases hR
  rename_i hu
  obtain ⟨hu0, hu1⟩ := hu
  cases hR
  have e : Go.bits .and .u64 u 1 = u % 2 := by
    have := M.u64_mask hu0 hu1 (i := 1) (by decide); simpa using this
  have e2 : u.fdiv 2 = u / 2 := Int.fdiv_eq_ediv_of_nonneg _ (by decide)
  have w1 : IntKind.i64.wrap (u / 2) = u / 2 := wrap_small (by omega) (by omega)
  have w2 : IntKind.i64.wrap (u % 2) = u % 2 := wrap_small (by omega) (by omega)
  have w3 : IntKind.i64.wrap (0 - u % 2) = 0 - u % 2 := wrap_small (by omega) (by omega)
  have w3' : IntKind.i64.wrap (-(u % 2)) = -(u % 2) := wrap_small (by omega) (by omega)
  have e3 : Go.bits .xor .i64 (u / 2) (-(u % 2)) = M.unfoldI u := by
    unfold M.unfoldI
    by_cases h : u % 2 = 0
    · rw [if_pos h, h, show (-0 : Int) = 0 by omega, M.xor_i64_zero (by omega) (by omega)]
    · rw [if_neg h, show u % 2 = 1 by omega, M.xor_i64_all (by omega) (by omega)]; omega
  refine .go _ rfl rfl ?_
  simp -implicitDefEqProofs (disch := omega) [convV, e, e2, w1, w2, w3, w3', e3])
noncomputable def k_RUnfold : Ab.Spec := con1 (ofInt .u64) fun u _ => unfR u
noncomputable def T_RUnfold : CallF := withF T_Unfold 96 k_RUnfold
theorem T_RUnfold_ok : CallOk Tryd.prog T_RUnfold := con_of (A := annOf [] [] [] false []) fit T_Unfold_ok (fn := Tryd.f96) (by kernel_rfl) (by kernel_rfl) (by
  intro args objs r h0
  obtain ⟨_, u, rfl, hb, hR⟩ := con1_inv h0
  obtain rfl := ofInt_inv hb
  unfold unfR at hR
  split at hR
  case isFalse => cases hR
  rename_i hu
  obtain ⟨hu0, hu1⟩ := hu
  cases hR
  have e1 : u.tmod 2 = u % 2 := Int.tmod_eq_emod_of_nonneg hu0
  have e2 : u.tdiv 2 = u / 2 := Int.tdiv_eq_ediv_of_nonneg hu0
  have w0 : IntKind.u64.wrap (u / 2) = u / 2 := wrap_u64 (by omega) (by omega)
  have w1 : IntKind.i64.wrap (u / 2) = u / 2 := wrap_small (by omega) (by omega)
  have w2 : IntKind.i64.wrap (-(u / 2)) = -(u / 2) := wrap_small (by omega) (by omega)
  have w2' : IntKind.i64.wrap (0 - u / 2) = -(u / 2) := by rw [wrap_small (by omega) (by omega)]; omega
  have w3 : IntKind.i64.wrap (-(u / 2) - 1) = -(u / 2) - 1 := wrap_small (by omega) (by omega)
  refine .go _ rfl rfl ?_
  by_cases h : u % 2 = 0
  · have e3 : M.unfoldI u = u / 2 := if_pos h
    simp -implicitDefEqProofs (disch := omega) [convV, e1, e2, w0, w1, w2, w2', w3, e3, h]
  · have e3 : M.unfoldI u = -(u / 2) - 1 := if_neg h
    simp -implicitDefEqProofs (disch := omega) [convV, e1, e2, w0, w1, w2, w2', w3, e3, h])

noncomputable def k_RPut : Ab.Spec := con1 (ofInt .u64) fun u _ => putVR u
noncomputable def T_RPut : CallF := withF T_RUnfold 67 k_RPut
theorem T_RPut_ok : CallOk Tryd.prog T_RPut := con_of (A := annOf [] [4,13,20] [] false []) fit T_RUnfold_ok (fn := Tryd.f67) (by kernel_rfl) (by kernel_rfl) (by
  intro args objs r h0
  obtain ⟨_, u0, rfl, hb, hR⟩ := con1_inv h0
  obtain rfl := ofInt_inv hb
  unfold putVR at hR
  split at hR
  case isFalse => cases hR
  rename_i hu
  obtain ⟨hu0, hu1⟩ := hu
  cases hR
  obtain ⟨U, rfl⟩ := Int.eq_ofNat_of_zero_le hu0
  rw [Int.toNat_natCast]
  have hlen := M.putL_len10 (u := U) (by omega)
  obtain ⟨W, hW⟩ : ∃ W, W = M.putL U := ⟨_, rfl⟩
  rw [← hW] at hlen ⊢
  refine .go _ rfl rfl ?_
  simp [blit0]
  obtain ⟨I, hI⟩ : ∃ I : Nat → St → Prop, I = (fun (n : Nat) (s : St) => n ≤ U ∧ s.env 0 = .int .u64 n ∧ s.toks = [] ∧ s.low = objs.length ∧ ∃ p, p ++ M.putL n = W ∧ s.env 3 = .ref objs.length p.length 0 p.length 1 ∧ s.objs = objs ++ [.cells (ints .u8 p) p.length]) := ⟨_, rfl⟩
  refine .dn U I (by rw [hI]; exact ⟨Nat.le_refl _, by simp, by simp, by simp, [], by simp [hW], by simp, by simp [ints_nil]⟩) ?_
  intro n s hs
  rw [hI] at hs
  obtain ⟨hnU, g0, ht, hlo, p, hp, h3, ho⟩ := hs
  have hpl := congrArg List.length hp
  rw [List.length_append] at hpl
  have hpos := M.putL_pos n
  by_cases hlt : n < 128
  · have hge : ¬ (127 : Int) < (n : Int) := by omega
    have wu8 : IntKind.u8.wrap (n : Int) = n := wrap_u8 (by omega) (by omega)
    rw [M.putL_small hlt] at hp
    have es : ints .u8 p ++ [.int .u8 (n : Int)] = ints .u8 W := by rw [← hp]; simp [ints]
    have hWl : W.length = p.length + 1 := by rw [← hp]; simp
    simp -implicitDefEqProofs (disch := omega) [g0, h3, ht, hlo, ho, hge, convV, wu8, blit1, getObj_last, set_last, es, hWl, Nat.mod_one]
  · have hge : (127 : Int) < (n : Int) := by omega
    have wr : (n : Int).tmod 128 = ((n % 128 : Nat) : Int) := by rw [Int.tmod_eq_emod_of_nonneg (by omega)]; omega
    have wa : IntKind.u64.wrap (((n % 128 : Nat) : Int) + 128) = ((n % 128 + 128 : Nat) : Int) := by rw [wrap_u64 (by omega) (by omega)]; omega
    have wu8 : IntKind.u8.wrap ((n % 128 + 128 : Nat) : Int) = ((n % 128 + 128 : Nat) : Int) := wrap_u8 (by omega) (by omega)
    have wq : IntKind.u64.wrap ((n : Int).tdiv 128) = ((n / 128 : Nat) : Int) := by rw [Int.tdiv_eq_ediv_of_nonneg (by omega), wrap_u64 (by omega) (by omega)]; omega
    have h0 : ((n : Int).tdiv 128) = ((n / 128 : Nat) : Int) := by rw [Int.tdiv_eq_ediv_of_nonneg (by omega)]; omega
    rw [M.putL_big hlt] at hp
    obtain ⟨c, hc⟩ : ∃ c : Int, c = ((n % 128 + 128 : Nat) : Int) := ⟨_, rfl⟩
    obtain ⟨m, hm⟩ : ∃ m : Nat, m = n % 128 := ⟨_, rfl⟩
    obtain ⟨q, hq⟩ : ∃ q : Nat, q = n / 128 := ⟨_, rfl⟩
    have hqn : q < n := by omega
    have hp' : (p ++ [c]) ++ M.putL q = W := by rw [hc, hq, ← hp]; simp
    rw [← hc] at wa wu8
    rw [← hm] at wr wa
    rw [← hq] at wq
    have wq2 : IntKind.u64.wrap ((n : Int) / 128) = (q : Int) := by rw [wrap_u64 (by omega) (by omega)]; omega
    simp -implicitDefEqProofs (disch := omega) [g0, h3, ht, hlo, ho, hge, convV, wr, wa, wu8, wq, wq2, blit1, getObj_last, set_last, Nat.mod_one]
    rw [hI]
    exact ⟨q, hqn, by omega, by simp, by simp, by simp, p ++ [c], hp', by simp, by simp [ints]⟩)
noncomputable def k_RFold : Ab.Spec := con1 (ofInt .i64) fun v _ => foldVR v
noncomputable def T_RFold : CallF := withF T_RPut 82 k_RFold
theorem T_RFold_ok : CallOk Tryd.prog T_RFold := con_of (A := annOf [] [] [] false []) fit T_RPut_ok (fn := Tryd.f82) (by kernel_rfl) (by kernel_rfl) (by
  intro args objs r h0
  obtain ⟨_, v, rfl, hb, hR⟩ := con1_inv h0
  obtain rfl := ofInt_inv hb
  unfold foldVR at hR
  split at hR
  case isFalse => cases hR
  rename_i hu
  obtain ⟨hu0, hu1⟩ := hu
  cases hR
  refine .go _ rfl rfl ?_
  by_cases h : 0 ≤ v
  · have e3 : M.foldI v = v * 2 := by unfold M.foldI; rw [if_pos h]; omega
    have e1 : IntKind.u64.wrap v = v := wrap_u64 (by omega) (by omega)
    have e2 : IntKind.u64.wrap (v * 2) = v * 2 := wrap_u64 (by omega) (by omega)
    simp -implicitDefEqProofs (disch := omega) [convV, e1, e2, e3, h]
  · have e3 : M.foldI v = -2 * v - 1 := by unfold M.foldI; rw [if_neg h]
    have e1 : IntKind.i64.wrap (v + 1) = v + 1 := wrap_small (by omega) (by omega)
    have e2 : IntKind.i64.wrap (0 - (v + 1)) = -(v + 1) := by rw [wrap_small (by omega) (by omega)]; omega
    have e2' : IntKind.i64.wrap (-(v + 1)) = -(v + 1) := wrap_small (by omega) (by omega)
    have e4 : IntKind.u64.wrap (-(v + 1)) = -(v + 1) := wrap_u64 (by omega) (by omega)
    have e5 : IntKind.u64.wrap (-(v + 1) * 2) = -(v + 1) * 2 := wrap_u64 (by omega) (by omega)
    have e6 : IntKind.u64.wrap (-(v + 1) * 2 + 1) = -2 * v - 1 := by rw [wrap_u64 (by omega) (by omega)]; omega
    have e7 : 0 - (v + 1) = -(v + 1) := by omega
    simp -implicitDefEqProofs (disch := omega) [convV, e1, e2, e2', e3, e4, e5, e6, e7, h])

end Go.Proofs.YtnbgmclbbkfhhaaDoor.B
set_option maxRecDepth 20000
set_option maxHeartbeats 1000000
namespace Go.Proofs.YtnbgmclbbkfhhaaDoor.B
open Go Go.Ab
def isNils : V → Bool | .nils => true | _ => false
theorem srcR {objs : List AO} {v : V} {l : List Int} (h : ofIntsR .u8 objs v = some l) (e : TypeId) : srcOf (.slice e) objs 1 v = some (ints .u8 l) := by
  rcases ofIntsR_inv h with h | ⟨id, ver, off, cs, rfl, hg, hrow, hfit⟩
  · obtain ⟨-, -, -, va, -⟩ := bs h
    exact va objs e
  · simp [srcOf, rowOf, hg, hrow, hfit]
theorem cutR {objs : List AO} {v : V} {l : List Int} (h : ofIntsR .u8 objs v = some l) (lo hi mx : Option V) (a b : Nat) (ha : boundV lo 0 = some a) (hb : boundV hi l.length = some b) (hab : a ≤ b) (hl : b ≤ l.length) (hm : mx = none ∨ hi.isSome = true ∧ boundV mx 0 = some b) :
    ∃ w, (∀ O, cutV Tryd.prog 59 O v lo hi mx = some w) ∧ ofIntsR .u8 objs w = some ((l.take b).drop a) ∧ isNils w = isNils v ∧ demote w = w ∧ ntup w = some w := by
  have hmx : mx.isNone = true ∨ hi.isSome = true ∧ boundV mx 0 = some b := hm.imp (fun q => by rw [q]; rfl) id
  rcases ofIntsR_inv h with h | ⟨id, ver, off, cs, rfl, hg, hrow, hfit⟩
  · rcases ofInts_inv h with rfl | ⟨rfl, h1, h2⟩
    · refine ⟨.lst .frozen (ints .u8 ((l.take b).drop a)) (b - a), fun O => ?_, ?_, rfl, rfl, rfl⟩
      · simp [-boundV, cutV, sliceV, ha, hb, hab, hl, hmx, ints_take, ints_drop]
        exact fun q => hm.resolve_left q
      · exact ofIntsR_of (ofInts_lst (by simp; omega))
    · have hl0 : l = [] := List.eq_nil_of_length_eq_zero h2
      subst hl0
      obtain rfl : b = 0 := by simpa using hl
      obtain rfl : a = 0 := by omega
      refine ⟨.nils, fun O => ?_, by simp [ofIntsR, ofInts], rfl, rfl, rfl⟩
      have hb0 : boundV hi 0 = some 0 := hb
      simp [-boundV, cutV, sliceV, ha, hb0, hmx]
      exact fun q => hm.resolve_left q
  · refine ⟨.ref id ver (off + a) (b - a) 1, fun O => ?_, ?_, rfl, rfl, rfl⟩
    · simp [-boundV, cutV, sliceV, ha, hb, hab, hl, hmx]
      exact fun q => hm.resolve_left q
    · have e : (cs.drop (off + a)).take (b - a) = ints .u8 ((l.take b).drop a) := by
        rw [← ints_drop, ← ints_take, ← hrow, List.take_take, Nat.min_eq_left hl, List.drop_take, List.drop_drop]
      simp only [ofIntsR, hg, e, ofCellsI_ints, Option.bind_some]
      rw [if_pos ⟨by simp; omega, by omega⟩]
theorem ofIntsR_app {objs m : List AO} {v : V} {l : List Int} (h : ofIntsR .u8 objs v = some l) : ofIntsR .u8 (objs ++ m) v = some l := by
  rcases ofIntsR_inv h with h | ⟨id, ver, off, cs, rfl, hg, hrow, hfit⟩
  · exact ofIntsR_of h
  · have hg2 := getObj_app (m := m) (v := ver) (getObj_lt hg)
    rw [hg] at hg2
    simp only [ofIntsR, hg2, hrow, ofCellsI_ints, Option.bind_some]
    rw [if_pos ⟨trivial, hfit⟩]
noncomputable def k_CloneR : Ab.Spec := con1 some fun v objs => match ofIntsR .u8 objs v with | some l => bnd l.length 140737488355300 (some (if isNils v = true then .nils else .lst (.fresh 1 true) (ints .u8 l) l.length, none)) | none => none
noncomputable def T_CloneR : CallF := withF T_RFold 81 k_CloneR
theorem T_CloneR_ok : CallOk Tryd.prog T_CloneR := con_of (A := annOf [] [5,7] [] false []) fit T_RFold_ok (fn := Tryd.f81) (by kernel_rfl) (by kernel_rfl) (by
  intro args objs r h0
  obtain ⟨v, _, rfl, hv, hR⟩ := con1_inv h0
  cases hv
  split at hR
  case h_2 => cases hR
  rename_i l ha
  obtain ⟨hl, hR⟩ := bnd_inv hR
  cases hR
  obtain ⟨_, vd, vn, -⟩ := bsR ha
  have hsrc := fun m => srcR (objs := objs ++ [.cells [] m]) (v := v) (l := l)
  refine .go _ rfl rfl ?_
  rcases ofIntsR_inv ha with h | ⟨id, ver, off, cs, rfl, hg, hrow, hfit⟩
  · rcases ofInts_inv h with rfl | ⟨rfl, h1, h2⟩
    · simp (disch := omega) [nilFit, nilEq, blit0, Nat.mod_one, isNils]
    · simp [nilFit, nilEq, isNils]
  · have hid := getObj_lt hg
    have hg2 := getObj_app (m := [.cells [] 0]) (v := ver) hid
    rw [hg] at hg2
    simp (disch := omega) [nilFit, nilEq, blit0, Nat.mod_one, isNils, hg2, hrow, hfit])

end Go.Proofs.YtnbgmclbbkfhhaaDoor.B

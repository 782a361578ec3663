import Derived.Test.YtiaihiccaoibgaaDoorKeTy
import Derived.Test.YtiaihiccaoibgaaDoorAb32
set_option linter.unusedSimpArgs false
set_option linter.unusedVariables false
set_option linter.unusedSectionVars false
set_option maxRecDepth 20000
set_option maxHeartbeats 1000000
namespace Go.Proofs.YtiaihiccaoibgaaDoor.B
open Go Go.Ab
theorem fit : Fit Tryd.prog := fit_of (by kernel_rfl)
def Tnone : CallF := fun _ _ _ => none
theorem Tnone_ok : CallOk Tryd.prog Tnone := con_none
/-! slices of bytes that come in -/
theorem bs {v : V} {l : List Int} (h : ofInts .u8 v = some l) : demote v = v ∧ lenV Tryd.prog 28 v = some (.int .i64 l.length) ∧ (∀ k i, 0 ≤ i → i < (l.length : Int) → indexV Tryd.prog 28 v (.int k i) = some (.fptr (ints .u8 l) i.toNat)) ∧
    (∀ objs e, srcOf (.slice e) objs 1 v = some (ints .u8 l)) ∧ isDef v = true ∧ cellsOf v = [v] ∧ oneCell v = true ∧ ∀ b, Ab.noref b v = true := by
  have w := ofInts_inv h
  refine ⟨w.dem, w.size u28, fun k i h0 h1 => ?_, fun objs e => w.src (by simp) (by simp) objs e, w.isDef, w.cells, w.one, fun b => w.noref (by simp)⟩
  have := w.idx u28 z5 k i h0 h1
  rwa [Nat.mul_one] at this
theorem bcut {v : V} {l : List Int} (h : ofInts .u8 v = some l) (objs : List AO) (lo hi : Option V) (a b : Nat) (ha : boundV lo 0 = some a) (hb : boundV hi l.length = some b) (hab : a ≤ b) (hl : b ≤ l.length) :
    ∃ w, cutV Tryd.prog 28 objs v lo hi none = some w ∧ ofInts .u8 w = some ((l.take b).drop a) := by
  obtain ⟨w, h1, h2⟩ := (ofInts_inv h).cut u28 z5 objs lo hi a b ha hb hab hl
  refine ⟨w, h1, ?_⟩
  rw [Nat.mul_one, Nat.mul_one, ints_take, ints_drop] at h2
  exact h2.ofInts (by simp; omega)
theorem blit1 (c : Int) : listV Tryd.prog 28 1 [(0, .int .u8 c)] = some ([.int .u8 c], 1) := by simp [listV, fillV, zeros, setCells]
theorem blit0 : listV Tryd.prog 28 0 [] = some ([], 1) := by simp [listV, fillV, zeros]
/-- A row of bytes that is appended to; one that stands in an object. -/
def tokB (l : List Int) : V := .lst (.tok 0 1) (ints .u8 l) l.length
theorem getObj_last {objs : List AO} {cs : List V} {v : Nat} : Ab.getObj (objs ++ [.cells cs v]) objs.length v = some cs := by simp [Ab.getObj]
theorem getObj_last0 {objs : List AO} {cs : List V} {v : Nat} (n : Nat) (h : n = objs.length) : Ab.getObj (objs ++ [.cells cs v]) n v = some cs := by simp [Ab.getObj, h]
theorem set_last {objs : List AO} {a b : AO} : (objs ++ [a]).set objs.length b = objs ++ [b] := by simp
theorem take_last {objs : List AO} {a : AO} : (objs ++ [a]).take objs.length = objs := by simp
theorem getObj_two {objs : List AO} {a : AO} {cs : List V} {v : Nat} : Ab.getObj (objs ++ [a, .cells cs v]) (objs.length + 1) v = some cs := by simp [Ab.getObj]
theorem getObj_one {objs : List AO} {a : AO} {cs : List V} {v : Nat} : Ab.getObj (objs ++ [.cells cs v, a]) objs.length v = some cs := by simp [Ab.getObj]

noncomputable def k_Same : Ab.Spec := con2 (ofInts .u8) (ofInts .u8) fun a b _ => bnd a.length 140737488355328 (some (.bool (decide (a = b)), none))
noncomputable def T_Same : CallF := withF Tnone 26 k_Same
theorem T_Same_ok : CallOk Tryd.prog T_Same := con_of (A := annOf [] [] [] false []) fit Tnone_ok (fn := Tryd.f26) (by kernel_rfl) (by kernel_rfl) (by
  intro args objs r h0
  obtain ⟨v, w, a, b, rfl, ha, hb, hR⟩ := con2_inv h0
  obtain ⟨hl, hR⟩ := bnd_inv hR
  cases hR
  obtain ⟨vd, vn, vi, -⟩ := bs ha
  obtain ⟨wd, wn, wi, -⟩ := bs hb
  refine .go _ rfl rfl ?_
  by_cases hn : a.length = b.length
  · simp [vn, wn, hn]
    refine .up a.length (fun i s => s.env 0 = v ∧ s.env 1 = w ∧ s.env 5 = .int .i64 i ∧ s.toks = [] ∧ s.objs = objs ∧ s.low = objs.length ∧ ∀ j, j < i → nth a j = nth b j) (by simp) ?_
    rintro i s hi ⟨h0, h1, h5, ht, ho, hlo, hj⟩
    rcases Nat.lt_or_ge i a.length with h | h
    · by_cases he : nth a i = nth b i
      · have hf : (nth a i != nth b i) = false := by simpa using he
        have hs : ∀ j, j < i + 1 → nth a j = nth b j := fun j hj2 => by
          rcases Nat.lt_or_ge j i with h2 | h2
          · exact hj j h2
          · obtain rfl : j = i := by omega
            exact he
        simp (disch := omega) [h0, h1, h5, ht, ho, hlo, vn, wn, vi, wi, h, ints_nth, hf, wrap_small]
        exact hs
      · have hf : (nth a i != nth b i) = true := by simpa using he
        have hne : a ≠ b := fun q => he (by rw [q])
        simp (disch := omega) [h0, h1, h5, ht, ho, hlo, vn, wn, vi, wi, h, ints_nth, hf, hne]
    · have hab : a = b := ext_nth hn fun j h2 => hj j (by omega)
      have hnl : ¬ i < b.length := by omega
      simp [h0, h1, h5, ht, ho, hlo, vn, wn, hab, hnl]
  · have hf : ((a.length : Int) != (b.length : Int)) = true := by simp only [bne_iff_ne, ne_eq]; omega
    have hne : a ≠ b := fun q => hn (by rw [q])
    simp [vn, wn, hf, hne])

noncomputable def k_Copy : Ab.Spec := con1 (ofInts .u8) fun l _ => bnd l.length 140737488355300 (some (.lst (.fresh 1 true) (ints .u8 l) l.length, none))
noncomputable def T_Copy : CallF := withF T_Same 30 k_Copy
theorem T_Copy_ok : CallOk Tryd.prog T_Copy := con_of (A := annOf [] [5,18] [] false []) fit T_Same_ok (fn := Tryd.f30) (by kernel_rfl) (by kernel_rfl) (by
  intro args objs r h0
  obtain ⟨v, l, rfl, ha, hR⟩ := con1_inv h0
  obtain ⟨hl, hR⟩ := bnd_inv hR
  cases hR
  obtain ⟨vd, vn, vi, -⟩ := bs ha
  refine .go _ rfl rfl ?_
  simp [blit0]
  refine .up l.length (fun i s => s.env 0 = v ∧ s.env 3 = .ref objs.length i 0 i 1 ∧ s.env 4 = .int .i64 i ∧ s.toks = [] ∧ s.objs = objs ++ [.cells (ints .u8 (l.take i)) i] ∧ s.low = objs.length) (by simp [ints_nil]) ?_
  rintro i s hi ⟨h0, h3, h4, ht, ho, hlo⟩
  rcases Nat.lt_or_ge i l.length with h | h
  · have e := take_nth h
    simp (disch := omega) [h0, h3, h4, ht, ho, hlo, vn, vi, h, ints_nth, blit1, e, wrap_small, getObj_last, Nat.mod_one]
  · obtain rfl : i = l.length := by omega
    simp [h0, h3, h4, ht, ho, hlo, vn, getObj_last])

noncomputable def k_Cat : Ab.Spec := con2 (ofInts .u8) (ofInts .u8) fun a b _ => bnd (a.length + b.length) 140737488355300 (some (.lst (.fresh 1 false) (ints .u8 (a ++ b)) (a.length + b.length), none))
noncomputable def T_Cat : CallF := withF T_Copy 21 k_Cat
theorem T_Cat_ok : CallOk Tryd.prog T_Cat := con_of (A := annOf [8] [] [] false []) fit T_Copy_ok (fn := Tryd.f21) (by kernel_rfl) (by kernel_rfl) (by
  intro args objs r h0
  obtain ⟨v, w, a, b, rfl, ha, hb, hR⟩ := con2_inv h0
  obtain ⟨hl, hR⟩ := bnd_inv hR
  cases hR
  obtain ⟨vd, vn, vi, -⟩ := bs ha
  obtain ⟨wd, wn, wi, -⟩ := bs hb
  refine .go _ rfl rfl ?_
  simp [blit0]
  refine .up a.length (fun i s => s.env 0 = v ∧ s.env 1 = w ∧ s.env 5 = .lst (.tok 0 1) (ints .u8 (a.take i)) i ∧ s.env 6 = .int .i64 i ∧ s.toks = [i] ∧ s.objs = objs ∧ s.low = objs.length) (by simp [ints_nil]) ?_
  rintro i s hi ⟨h0, h1, h5, h6, ht, ho, hlo⟩
  rcases Nat.lt_or_ge i a.length with h | h
  · have e := take_nth h
    have hm : min i a.length = i := by omega
    simp (disch := omega) [h0, h1, h5, h6, ht, ho, hlo, vn, vi, h, ints_nth, blit1, e, wrap_small, Nat.mod_one, hm]
  · obtain rfl : i = a.length := by omega
    simp [h0, h1, h5, h6, ht, ho, hlo, vn]
    refine .up b.length (fun i s => s.env 1 = w ∧ s.env 5 = .lst (.tok 0 1) (ints .u8 (a ++ b.take i)) (a.length + i) ∧ s.env 7 = .int .i64 i ∧ s.toks = [a.length + i] ∧ s.objs = objs ∧ s.low = objs.length) (by simp [h0, h1, h5, h6, ht, ho, hlo]) ?_
    rintro i s hi ⟨h1, h5, h7, ht, ho, hlo⟩
    rcases Nat.lt_or_ge i b.length with h | h
    · have e := take_nth h
      have hm : min i b.length = i := by omega
      simp (disch := omega) [h1, h5, h7, ht, ho, hlo, wn, wi, h, ints_nth, blit1, e, wrap_small, Nat.mod_one, hm, Nat.add_assoc]
    · obtain rfl : i = b.length := by omega
      simp [h1, h5, h7, ht, ho, hlo, wn])

def pieceZ (l : List Int) (lo hi : Int) : List Int := (l.take hi.toNat).drop lo.toNat
theorem pieceZ_len (l : List Int) (lo hi : Int) : (pieceZ l lo hi).length = min hi.toNat l.length - lo.toNat := by simp [pieceZ]
noncomputable def k_Piece : Ab.Spec := con3 (ofInts .u8) (ofInt .i64) (ofInt .i64) fun l lo hi _ => bnd l.length 140737488355300 (if lo < 9223372036854775807 then some (.lst (.fresh 1 false) (ints .u8 (pieceZ l lo hi)) (pieceZ l lo hi).length, none) else none)
noncomputable def T_Piece : CallF := withF T_Cat 33 k_Piece
theorem T_Piece_ok : CallOk Tryd.prog T_Piece := con_of (A := annOf [9] [] [] false []) fit T_Cat_ok (fn := Tryd.f33) (by kernel_rfl) (by kernel_rfl) (by
  intro args objs r h0
  obtain ⟨v, _, _, l, lo, hi, rfl, ha, hb, hc, hR⟩ := con3_inv h0
  obtain rfl := ofInt_inv hb
  obtain rfl := ofInt_inv hc
  obtain ⟨hl, hR⟩ := bnd_inv hR
  split at hR
  case isFalse => cases hR
  rename_i hlo9
  cases hR
  obtain ⟨vd, vn, vi, -⟩ := bs ha
  refine .go _ rfl rfl ?_
  simp [blit0]
  refine .stop (M := fun e s => e = .norm ∧ s.env 0 = v ∧ s.env 2 = .int .i64 hi ∧ s.env 1 = .int .i64 (lo.toNat : Int) ∧ s.env 7 = .lst (.tok 0 1) [] 0 ∧ s.toks = [0] ∧ s.objs = objs ∧ s.low = objs.length) ?_ ?_
  · by_cases h : lo < 0
    · have : (max lo 0) = 0 := by omega
      simp [h, At, this]
    · have : max lo 0 = lo := by omega
      simp [h, At, this]
  rintro e s ⟨rfl, h0, h2, h1, h7, ht, ho, hlo⟩
  unfold pieceZ
  obtain ⟨p, hp⟩ : ∃ p, lo.toNat = p := ⟨_, rfl⟩
  rw [hp] at h1 ⊢
  simp [h0, h2, h1, h7, ht, ho, hlo]
  refine .up (l.length - p) (fun i s => s.env 0 = v ∧ s.env 2 = .int .i64 hi ∧ s.env 8 = .int .i64 ((p + i : Nat) : Int) ∧ s.env 7 = .lst (.tok 0 1) (ints .u8 ((l.drop p).take i)) i ∧ s.toks = [i] ∧ s.objs = objs ∧ s.low = objs.length ∧ (i = 0 ∨ ((p + i : Nat) : Int) ≤ hi)) (by simp [h0, h2, h1, h7, ht, ho, hlo, ints_nil]) ?_
  rintro i s hi9 ⟨h0, h2, h8, h7, ht, ho, hlo, hd⟩
  have fin : ¬ (p + i < l.length ∧ ((p + i : Nat) : Int) < hi) → (l.drop p).take i = (l.take hi.toNat).drop p := by
    intro hn
    rw [List.drop_take]
    rcases Nat.lt_or_ge (p + i) l.length with h | h
    · have h3 : hi ≤ ((p + i : Nat) : Int) := by
        rcases Int.lt_or_le ((p + i : Nat) : Int) hi with h3 | h3
        · exact absurd ⟨h, h3⟩ hn
        · exact h3
      rcases hd with rfl | hd
      · have : hi.toNat - p = 0 := by omega
        rw [this]
      · congr 1; omega
    · rw [List.take_of_length_le (by simp; omega), List.take_of_length_le]
      rcases hd with rfl | hd
      · simp; omega
      · simp; omega
  have hm : min i (l.length - p) = i := by omega
  by_cases h : p + i < l.length
  · by_cases h3 : ((p + i : Nat) : Int) < hi
    · have e : (l.drop p).take (i + 1) = (l.drop p).take i ++ [nth l (p + i)] := by rw [take_nth (by simp; omega), nth_drop]
      have h4 : i < l.length - p := by omega
      have h5 : ((p + i : Nat) : Int) + 1 ≤ hi := by omega
      simp only [Int.natCast_add] at h3 h5
      have hI : (p : Int) + (i : Int) < l.length := by omega
      simp (disch := omega) [h0, h2, h8, h7, ht, ho, hlo, vn, vi, h, h3, h4, h5, ints_nth, blit1, e, wrap_small, Nat.mod_one, hm]
      try omega
    · have f := fin (fun q => h3 q.2)
      rw [← f]
      simp only [Int.natCast_add] at h3
      simp (disch := omega) [h0, h2, h8, h7, ht, ho, hlo, vn, hm]
      omega
  · have f := fin (fun q => h q.1)
    rw [← f]
    simp (disch := omega) [h0, h2, h8, h7, ht, ho, hlo, vn, hm]
    omega)

def mkZ (i : Int) : Int := IntKind.u8.wrap (IntKind.i64.wrap (192 + i.tmod 7))
def marks (n : Nat) : List Int := (List.range n).map fun i : Nat => mkZ i
def wide (l : List Int) : List Int := l ++ marks 64
theorem marks_len (n : Nat) : (marks n).length = n := by simp [marks]
theorem wide_len (l : List Int) : (wide l).length = l.length + 64 := by simp [wide, marks_len]
theorem marks_succ (n : Nat) : marks (n + 1) = marks n ++ [mkZ n] := by simp [marks, List.range_succ]
theorem marks_nth {n i : Nat} (h : i < n) : nth (marks n) i = mkZ i := by
  unfold marks
  rw [nth_map (by simpa using h)]
  congr 1
  simp [nth, h]
noncomputable def k_Wide : Ab.Spec := con1 (ofInts .u8) fun l _ => bnd l.length 140737488355000 (some (.lst (.fresh 1 true) (ints .u8 (wide l)) (l.length + 64), none))
noncomputable def T_Wide : CallF := withF T_Piece 16 k_Wide
theorem T_Wide_ok : CallOk Tryd.prog T_Wide := con_of (A := annOf [] [17] [(6, [.ref])] false []) fit T_Piece_ok (fn := Tryd.f16) (by kernel_rfl) (by kernel_rfl) (by
  intro args objs r h0
  have c_Copy : ∀ a o, T_Piece 30 a o = k_Copy a o := fun _ _ => rfl
  obtain ⟨v, l, rfl, ha, hR⟩ := con1_inv h0
  obtain ⟨hl, hR⟩ := bnd_inv hR
  cases hR
  obtain ⟨vd, vn, vi, -⟩ := bs ha
  refine .go _ rfl rfl ?_
  simp (disch := omega) [c_Copy, k_Copy, vd, ha]
  refine .up 64 (fun i s => s.env 3 = .ref objs.length i 0 (l.length + i) 1 ∧ s.env 4 = .int .i64 i ∧ s.toks = [] ∧ s.objs = objs ++ [.cells (ints .u8 (l ++ marks i)) i] ∧ s.low = objs.length) (by simp [marks]) ?_
  rintro i s hi ⟨h3, h4, ht, ho, hlo⟩
  rcases Nat.lt_or_ge i 64 with h | h
  · have e := marks_succ i
    have hz : (i : Int) < 64 := by omega
    simp (disch := omega) [h3, h4, ht, ho, hlo, h, hz, blit1, e, wrap_small, getObj_last, Nat.mod_one, marks_len, convV, mkZ, Nat.add_assoc]
  · obtain rfl : i = 64 := by omega
    simp [h3, h4, ht, ho, hlo, getObj_last, marks_len, wide])

noncomputable def k_Intact : Ab.Spec := con2 (ofInts .u8) (ofInts .u8) fun w l _ => bnd (w.length + l.length) 281474976710656 (some (.bool (decide (w = wide l)), none))
noncomputable def T_Intact : CallF := withF T_Wide 23 k_Intact
theorem T_Intact_ok : CallOk Tryd.prog T_Intact := con_of (A := annOf [] [] [] false []) fit T_Wide_ok (fn := Tryd.f23) (by kernel_rfl) (by kernel_rfl) (by
  intro args objs r h0
  obtain ⟨v, w, a, b, rfl, ha, hb, hR⟩ := con2_inv h0
  obtain ⟨hl, hR⟩ := bnd_inv hR
  cases hR
  obtain ⟨vd, vn, vi, -⟩ := bs ha
  obtain ⟨wd, wn, wi, -⟩ := bs hb
  refine .go _ rfl rfl ?_
  by_cases hn : a.length = b.length + 64
  · have hw : IntKind.i64.wrap ((b.length : Int) + 64) = (b.length : Int) + 64 := wrap_small (by omega) (by omega)
    have hn2 : ((a.length : Int) != (b.length : Int) + 64) = false := by simp only [bne_eq_false_iff_eq]; omega
    simp [vn, wn, hw, hn2]
    refine .up b.length (fun i s => s.env 0 = v ∧ s.env 1 = w ∧ s.env 5 = .int .i64 i ∧ s.toks = [] ∧ s.objs = objs ∧ s.low = objs.length ∧ ∀ j, j < i → nth a j = nth b j) (by simp) ?_
    rintro i s hi ⟨h0, h1, h5, ht, ho, hlo, hj⟩
    rcases Nat.lt_or_ge i b.length with h | h
    · by_cases he : nth a i = nth b i
      · have hf : (nth a i != nth b i) = false := by simpa using he
        have hs : ∀ j, j < i + 1 → nth a j = nth b j := fun j hj2 => by
          rcases Nat.lt_or_ge j i with h2 | h2
          · exact hj j h2
          · obtain rfl : j = i := by omega
            exact he
        simp (disch := omega) [h0, h1, h5, ht, ho, hlo, vn, wn, vi, wi, h, ints_nth, hf, wrap_small]
        exact hs
      · have hf : (nth a i != nth b i) = true := by simpa using he
        have hne : a ≠ wide b := fun q => he (by rw [q, wide, nth_app_l h])
        simp (disch := omega) [h0, h1, h5, ht, ho, hlo, vn, wn, vi, wi, h, ints_nth, hf, hne]
    · obtain rfl : i = b.length := by omega
      simp [h0, h1, h5, ht, ho, hlo, vn, wn]
      refine .up 64 (fun i s => s.env 0 = v ∧ s.env 1 = w ∧ s.env 6 = .int .i64 i ∧ s.toks = [] ∧ s.objs = objs ∧ s.low = objs.length ∧ ∀ j, j < i → nth a (b.length + j) = mkZ j) (by simp [h0, h1, ht, ho, hlo]) ?_
      rintro i s hi ⟨h0, h1, h6, ht, ho, hlo, hj2⟩
      rcases Nat.lt_or_ge i 64 with h | h
      · have hz : (i : Int) < 64 := by omega
        have hwi : IntKind.i64.wrap ((b.length : Int) + i) = (b.length : Int) + i := wrap_small (by omega) (by omega)
        by_cases he : nth a (b.length + i) = mkZ i
        · have hf : (nth a (b.length + i) != mkZ i) = false := by simpa using he
          have hs : ∀ j, j < i + 1 → nth a (b.length + j) = mkZ j := fun j hj3 => by
            rcases Nat.lt_or_ge j i with h2 | h2
            · exact hj2 j h2
            · obtain rfl : j = i := by omega
              exact he
          unfold mkZ at hf
          simp (disch := omega) [h0, h1, h6, ht, ho, hlo, vn, wn, vi, h, hz, ints_nth, hf, wrap_small, convV, hwi]
          exact hs
        · have hf : (nth a (b.length + i) != mkZ i) = true := by simpa using he
          have hne : a ≠ wide b := fun q => he (by rw [q, wide, nth_app_r (by omega), Nat.add_sub_cancel_left, marks_nth h])
          unfold mkZ at hf
          simp (disch := omega) [h0, h1, h6, ht, ho, hlo, vn, wn, vi, h, hz, ints_nth, hf, wrap_small, convV, hwi, hne]
      · obtain rfl : i = 64 := by omega
        have hab : a = wide b := ext_nth (by rw [hn, wide_len]) fun j h2 => by
          rcases Nat.lt_or_ge j b.length with h3 | h3
          · rw [hj j h3, wide, nth_app_l h3]
          · have := hj2 (j - b.length) (by omega)
            rw [show b.length + (j - b.length) = j by omega] at this
            rw [this, wide, nth_app_r h3, marks_nth (by omega)]
        simp [h0, h1, h6, ht, ho, hlo, hab]
  · have hw : IntKind.i64.wrap ((b.length : Int) + 64) = (b.length : Int) + 64 := wrap_small (by omega) (by omega)
    have hn2 : ((a.length : Int) != (b.length : Int) + 64) = true := by simp only [bne_iff_ne, ne_eq]; omega
    have hne : a ≠ wide b := fun q => hn (by rw [q, wide_len])
    simp [vn, wn, hw, hn2, hne])

/-! what a law is handed -/
def b8 (l : List Int) : Bool := l.all fun c => decide (0 ≤ c) && decide (c < 256)
theorem b8_iff {l : List Int} : b8 l = true ↔ ∀ c ∈ l, 0 ≤ c ∧ c < 256 := by simp [b8]
theorem wf_u8 {l : List Int} (h : ∀ c ∈ l, (Lit.int .u8 c).wf = true) : b8 l = true := b8_iff.2 fun c hc => by
  have := h c hc
  simp [Lit.wf, IntKind.min, IntKind.max] at this
  omega

end Go.Proofs.YtiaihiccaoibgaaDoor.B
set_option maxRecDepth 20000
set_option maxHeartbeats 1000000
namespace Go.Proofs.YtiaihiccaoibgaaDoor.B
open Go Go.Ab
/-! slices of bytes, told or as objects -/
theorem bsR {objs : List AO} {v : V} {l : List Int} (h : ofIntsR .u8 objs v = some l) : ∃ P : Nat → V, demote v = v ∧ lenV Tryd.prog 28 v = some (.int .i64 l.length) ∧ (∀ k i, 0 ≤ i → i < (l.length : Int) → indexV Tryd.prog 28 v (.int k i) = some (P i.toNat)) ∧ ∀ i, i < l.length → loadV Tryd.prog 5 objs (P i) = some (.int .u8 (nth l i)) := by
  rcases ofIntsR_inv h with h | ⟨id, ver, off, cs, rfl, hg, hrow, -⟩
  · obtain ⟨vd, vn, vi, -⟩ := bs h
    refine ⟨fun i => .fptr (ints .u8 l) i, vd, vn, vi, fun i hi => ?_⟩
    have e := of_get (ints_nth (k := .u8) hi)
    simp [hi, e]
  · refine ⟨fun i => .ptr id ver (off + i), rfl, by simp, fun k i h0 h1 => by simp [h0, h1], fun i hi => ?_⟩
    have e := row_get hrow hi
    simp [hg, e]
noncomputable def k_SameR : Ab.Spec := con2 some some fun v w objs => match ofIntsR .u8 objs v, ofIntsR .u8 objs w with | some a, some b => bnd a.length 140737488355328 (some (.bool (decide (a = b)), none)) | _, _ => none
noncomputable def T_SameR : CallF := withF T_Intact 26 k_SameR
theorem T_SameR_ok : CallOk Tryd.prog T_SameR := con_of (A := annOf [] [] [] false []) fit T_Intact_ok (fn := Tryd.f26) (by kernel_rfl) (by kernel_rfl) (by
  intro args objs r h0
  obtain ⟨v, w, _, _, rfl, hv, hw, hR⟩ := con2_inv h0
  cases hv; cases hw
  split at hR
  case h_2 => cases hR
  rename_i a b ha hb
  obtain ⟨hl, hR⟩ := bnd_inv hR
  cases hR
  obtain ⟨pa, vd, vn, vi, vl⟩ := bsR ha
  obtain ⟨pb, wd, wn, wi, wl⟩ := bsR hb
  refine .go _ rfl rfl ?_
  by_cases hn : a.length = b.length
  · simp [vn, wn, hn]
    refine .up a.length (fun i s => s.env 0 = v ∧ s.env 1 = w ∧ s.env 5 = .int .i64 i ∧ s.toks = [] ∧ s.objs = objs ∧ s.low = objs.length ∧ ∀ j, j < i → nth a j = nth b j) (by simp) ?_
    rintro i s hi ⟨h0, h1, h5, ht, ho, hlo, hj⟩
    rcases Nat.lt_or_ge i a.length with h | h
    · by_cases he : nth a i = nth b i
      · have hf : (nth a i != nth b i) = false := by simpa using he
        have hs : ∀ j, j < i + 1 → nth a j = nth b j := fun j hj2 => by
          rcases Nat.lt_or_ge j i with h2 | h2
          · exact hj j h2
          · obtain rfl : j = i := by omega
            exact he
        simp (disch := omega) [h0, h1, h5, ht, ho, hlo, vn, wn, vi, wi, vl, wl, h, hf, wrap_small]
        exact hs
      · have hf : (nth a i != nth b i) = true := by simpa using he
        have hne : a ≠ b := fun q => he (by rw [q])
        simp (disch := omega) [h0, h1, h5, ht, ho, hlo, vn, wn, vi, wi, vl, wl, h, hf, hne]
    · have hab : a = b := ext_nth hn fun j h2 => hj j (by omega)
      have hnl : ¬ i < b.length := by omega
      simp [h0, h1, h5, ht, ho, hlo, vn, wn, hab, hnl]
  · have hf : ((a.length : Int) != (b.length : Int)) = true := by simp only [bne_iff_ne, ne_eq]; omega
    have hne : a ≠ b := fun q => hn (by rw [q])
    simp [vn, wn, hf, hne])
def spF (c : Int) : Int := Go.bits .xor .u8 c 90
noncomputable def k_TurnedR : Ab.Spec := con2 some some fun v w objs => match ofIntsR .u8 objs v, ofIntsR .u8 objs w with | some a, some b => bnd a.length 140737488355328 (some (.bool (decide (a = b.map spF)), none)) | _, _ => none
noncomputable def T_TurnedR : CallF := withF T_SameR 43 k_TurnedR
theorem T_TurnedR_ok : CallOk Tryd.prog T_TurnedR := con_of (A := annOf [] [] [] false []) fit T_SameR_ok (fn := Tryd.f43) (by kernel_rfl) (by kernel_rfl) (by
  intro args objs r h0
  obtain ⟨v, w, _, _, rfl, hv, hw, hR⟩ := con2_inv h0
  cases hv; cases hw
  split at hR
  case h_2 => cases hR
  rename_i a b ha hb
  obtain ⟨hl, hR⟩ := bnd_inv hR
  cases hR
  obtain ⟨pa, vd, vn, vi, vl⟩ := bsR ha
  obtain ⟨pb, wd, wn, wi, wl⟩ := bsR hb
  refine .go _ rfl rfl ?_
  by_cases hn : a.length = b.length
  · have hml : a.length = (b.map spF).length := by simp [hn]
    have hnm : ∀ j, j < b.length → nth (b.map spF) j = spF (nth b j) := fun j hj => by
      unfold nth; rw [List.getD_eq_getElem?_getD, List.getD_eq_getElem?_getD, List.getElem?_map, List.getElem?_eq_getElem hj]; rfl
    simp [vn, wn, hn]
    refine .up b.length (fun i s => s.env 0 = v ∧ s.env 1 = w ∧ s.env 5 = .int .i64 i ∧ s.toks = [] ∧ s.objs = objs ∧ s.low = objs.length ∧ ∀ j, j < i → nth a j = spF (nth b j)) (by simp) ?_
    rintro i s hi ⟨h0, h1, h5, ht, ho, hlo, hj⟩
    rcases Nat.lt_or_ge i b.length with h | h
    · by_cases he : nth a i = spF (nth b i)
      · have hf : (nth a i != Go.bits .xor .u8 (nth b i) 90) = false := by simpa [spF] using he
        have hs : ∀ j, j < i + 1 → nth a j = spF (nth b j) := fun j hj2 => by
          rcases Nat.lt_or_ge j i with h2 | h2
          · exact hj j h2
          · obtain rfl : j = i := by omega
            exact he
        simp (disch := omega) [h0, h1, h5, ht, ho, hlo, vn, wn, vi, wi, vl, wl, h, hf, wrap_small]
        exact hs
      · have hf : (nth a i != Go.bits .xor .u8 (nth b i) 90) = true := by simpa [spF] using he
        have hne : a ≠ b.map spF := fun q => he (by rw [q, hnm i h])
        simp (disch := omega) [h0, h1, h5, ht, ho, hlo, vn, wn, vi, wi, vl, wl, h, hf, hne]
    · have hab : a = b.map spF := ext_nth hml fun j h2 => by rw [hj j (by omega), hnm j (by omega)]
      have hnl : ¬ i < b.length := by omega
      simp [h0, h1, h5, ht, ho, hlo, vn, wn, ← hab, hnl]
  · have hf : ((a.length : Int) != (b.length : Int)) = true := by simp only [bne_iff_ne, ne_eq]; omega
    have hne : a ≠ b.map spF := fun q => hn (by rw [q]; simp)
    simp [vn, wn, hf, hne])
noncomputable def k_Spoil : Ab.Spec := con1 some fun v objs => match v with
  | .nils => some (.tup [], none)
  | .ref id ver 0 n 1 => match Ab.getObj objs id ver with
    | some cs => (ofCellsI .u8 cs).bind fun a => bnd a.length 140737488355000 (if n = a.length then some (.tup [], if n = 0 then none else some (objs.set id (.cells (ints .u8 (a.map spF)) ver), id)) else none)
    | _ => none
  | _ => none
noncomputable def T_Spoil : CallF := withF T_TurnedR 42 k_Spoil
theorem T_Spoil_ok : CallOk Tryd.prog T_Spoil := con_of (A := annOf [] [] [] false []) fit T_TurnedR_ok (fn := Tryd.f42) (by kernel_rfl) (by kernel_rfl) (by
  intro args objs r h0
  obtain ⟨v, _, rfl, hv, hR⟩ := con1_inv h0
  cases hv
  refine .go _ rfl rfl ?_
  split at hR
  · cases hR
    simp
    refine .up 0 (fun i s => s.env 0 = .nils ∧ s.env 2 = .int .i64 0 ∧ s.toks = [] ∧ s.objs = objs ∧ s.low = objs.length) (by simp) ?_
    rintro i s hi ⟨g0, g2, ht, ho, hlo⟩
    simp (disch := omega) [g0, g2, ht, ho, hlo]
  · rename_i id ver n
    split at hR
    case h_2 => cases hR
    rename_i cs hg
    obtain ⟨a, ecs, hR2⟩ := Option.bind_eq_some_iff.1 hR
    obtain rfl := ofCellsI_inv ecs
    clear hR
    obtain ⟨hl, hR⟩ := bnd_inv hR2
    split at hR
    case isFalse => cases hR
    rename_i hn
    subst hn
    cases hR
    have hid := getObj_lt hg
    simp -implicitDefEqProofs (disch := omega)
    refine .up a.length (fun i s => s.env 0 = .ref id ver 0 a.length 1 ∧ s.env 2 = .int .i64 i ∧ s.toks = [] ∧ s.objs = objs.set id (.cells (ints .u8 (mapP spF a i)) ver) ∧ s.low = if i = 0 then objs.length else id) (by simp [mapP]; exact (set_self hg).symm) ?_
    rintro i s hi ⟨g0, g2, ht, ho, hlo⟩
    have hx := mapP_len spF a i
    have hgs := getObj_set (cs := ints .u8 (mapP spF a i)) (v := ver) hid
    rcases Nat.lt_or_ge i a.length with h | h
    · have e0 := ints_nth (k := .u8) (l := mapP spF a i) (i := i) (by omega)
      have e := of_get e0
      have es := ints_set1 (k := .u8) (l := mapP spF a i) (i := i) (c := Go.bits .xor .u8 (nth (mapP spF a i) i) 90) (by omega)
      have hw : IntKind.i64.wrap ((i : Int) + 1) = (i : Int) + 1 := wrap_small (by omega) (by omega)
      have hs1 : i + 1 ≤ a.length := h
      have ex : (mapP spF a i).set i (Go.bits .xor .u8 (nth (mapP spF a i) i) 90) = mapP spF a (i + 1) := rfl
      rw [ex] at es
      have hlow : (if id < s.low then id else s.low) = id := by
        rw [hlo]
        by_cases z : i = 0
        · rw [if_pos z, if_pos hid]
        · rw [if_neg z, if_neg (by omega)]
      simp -implicitDefEqProofs (disch := omega) [g0, g2, ht, ho, hgs, e0, e, es, hx, hw, hlow, h, hs1]
    · obtain rfl : i = a.length := by omega
      have hm := mapP_all spF a
      rw [hm] at ho
      have htk : (objs.set id (AO.cells (ints .u8 (a.map spF)) ver)).take objs.length = objs.set id (AO.cells (ints .u8 (a.map spF)) ver) := List.take_of_length_le (by simp)
      by_cases z : a.length = 0
      · have hlo' : s.low = objs.length := by rw [hlo, if_pos z]
        simp -implicitDefEqProofs (disch := omega) [g0, g2, ht, ho, hlo', htk, z]
        exact List.eq_nil_of_length_eq_zero z
      · have hlo' : s.low = id := by rw [hlo, if_neg z]
        simp -implicitDefEqProofs (disch := omega) [g0, g2, ht, ho, hlo', htk, hid, z]
        exact fun q => z (by rw [q]; rfl)
  · cases hR)

end Go.Proofs.YtiaihiccaoibgaaDoor.B
set_option maxRecDepth 20000
set_option maxHeartbeats 1000000
namespace Go.Proofs.YtiaihiccaoibgaaDoor.B
open Go Go.Ab
noncomputable def k_Apart : Ab.Spec := con3 some some some fun v w u objs => match v with
  | .nils => match ofIntsR .u8 objs w, ofIntsR .u8 objs u with | some b, some c => if b = [] ∧ c = [] then some (.bool true, none) else none | _, _ => none
  | .ref id ver 0 n 1 => match Ab.getObj objs id ver with
    | some cs => (ofCellsI .u8 cs).bind fun a => bnd a.length 140737488354000 (if n = a.length ∧ ofIntsR .u8 objs w = some a ∧ ofIntsR .u8 objs u = some a ∧ ofIntsR .u8 (objs.set id (.cells (ints .u8 (a.map spF)) ver)) w = some a ∧ ofIntsR .u8 (objs.set id (.cells (ints .u8 (a.map spF)) ver)) u = some a ∧ (n = 0 ∨ clean objs.length (objs.set id (.cells (ints .u8 (a.map spF)) ver)) = true)
      then some (.bool true, if n = 0 then none else some (objs.set id (.cells (ints .u8 (a.map spF)) ver), id)) else none)
    | _ => none
  | _ => none
noncomputable def T_Apart : CallF := withF T_Spoil 14 k_Apart
theorem T_Apart_ok : CallOk Tryd.prog T_Apart := con_ofW (A := annOf [] [] [] false [42]) fit T_Spoil_ok (fn := Tryd.f14) (by kernel_rfl) (by kernel_rfl) (by
  intro args objs r h0
  have c_SameR : ∀ a o, T_Spoil 26 a o = k_SameR a o := fun _ _ => rfl
  have c_TurnedR : ∀ a o, T_Spoil 43 a o = k_TurnedR a o := fun _ _ => rfl
  have c_Spoil : ∀ a o, T_Spoil 42 a o = k_Spoil a o := fun _ _ => rfl
  obtain ⟨v, w, u, _, _, _, rfl, hv, hw, hu, hR⟩ := con3_inv h0
  cases hv; cases hw; cases hu
  refine .go _ rfl rfl ?_
  split at hR
  · split at hR
    case h_2 => cases hR
    rename_i b c hb hc
    split at hR
    case isFalse => cases hR
    rename_i e
    obtain ⟨rfl, rfl⟩ := e
    cases hR
    have hn : ofIntsR .u8 objs V.nils = some [] := rfl
    obtain ⟨pb, wd, wn, -⟩ := bsR hb
    obtain ⟨pc, ud, un, -⟩ := bsR hc
    refine .thenT ?_
    simp
    refine .thenT ?_
    simp -implicitDefEqProofs (disch := omega) [wd, ud, c_SameR, k_SameR, hn, hb, hc]
    refine .thenT ?_
    simp -implicitDefEqProofs (disch := omega) [c_Spoil, k_Spoil]
    refine .thenT ?_
    simp -implicitDefEqProofs (disch := omega)
    refine .then (.thenT ?_)
    simp -implicitDefEqProofs (disch := omega)
    refine .cut (grow_block (N := 70) (n := 0) (X := fun _ => True) (LB := [7, 30, 29, 28, 27, 26]) (by omega) (by omega) (.inl ⟨rfl, rfl⟩) rfl (fun _ _ _ _ _ _ => trivial) (fun _ _ _ _ => trivial) (body_byte u28 (by kernel_rfl) v5 u3 u5 (by omega) (by decide)) (by simp) (by decide) (by decide)) ?_
    show ToW _ _ _ _ _ _ _ _
    refine .of ?_
    simp -implicitDefEqProofs (disch := omega) [grownEnv, wd, ud, un, c_TurnedR, k_TurnedR, c_SameR, k_SameR, hn, hb, hc, wrap_small]
  · rename_i id ver n
    split at hR
    case h_2 => cases hR
    rename_i cs hg
    obtain ⟨a, ecs, hR2⟩ := Option.bind_eq_some_iff.1 hR
    obtain rfl := ofCellsI_inv ecs
    clear hR
    obtain ⟨hl, hR⟩ := bnd_inv hR2
    split at hR
    case isFalse => cases hR
    rename_i e
    obtain ⟨rfl, hb, hc, hb2, hc2, hcl⟩ := e
    have hid := getObj_lt hg
    have hn := ofIntsR_ref hg (n := a.length) rfl
    obtain ⟨pb, wd, wn, -⟩ := bsR hb
    obtain ⟨pc, ud, un, -⟩ := bsR hc
    have hl2 : a.length < 140737488355000 := by omega
    refine .thenT ?_
    simp
    refine .thenT ?_
    simp -implicitDefEqProofs (disch := omega) [wd, ud, c_SameR, k_SameR, hn, hb, hc]
    refine .thenT ?_
    by_cases hz : a.length = 0
    · rw [if_pos hz] at hR
      cases hR
      obtain rfl := List.eq_nil_of_length_eq_zero hz
      simp -implicitDefEqProofs (disch := omega) [c_Spoil, k_Spoil, hg, ofCellsI_ints]
      refine .thenT ?_
      simp -implicitDefEqProofs (disch := omega)
      refine .then (.thenT ?_)
      simp -implicitDefEqProofs (disch := omega)
      refine .cut (grow_block (N := 70) (n := 0) (X := fun _ => True) (LB := [7, 30, 29, 28, 27, 26]) (by omega) (by omega) (.inr ⟨id, ver, _, rfl, hg, by simp⟩) rfl (fun _ _ _ _ _ _ => trivial) (fun _ _ _ _ => trivial) (body_byte u28 (by kernel_rfl) v5 u3 u5 (by omega) (by decide)) (by simp) (by decide) (by decide)) ?_
      show ToW _ _ _ _ _ _ _ _
      refine .of ?_
      simp at hn
      simp -implicitDefEqProofs (disch := omega) [grownEnv, wd, ud, un, c_TurnedR, k_TurnedR, c_SameR, k_SameR, hn, hb, hc, wrap_small]
    · rw [if_neg hz] at hR
      cases hR
      have hcl := hcl.resolve_left hz
      have hgs := getObj_set (cs := ints .u8 (a.map spF)) (v := ver) hid
      have hn2 := ofIntsR_ref hgs (n := a.length) (by simp)
      simp -implicitDefEqProofs (disch := omega) [c_Spoil, k_Spoil, hg, ofCellsI_ints, hl2, hz, hcl, hid]
      refine .thenT ?_
      simp -implicitDefEqProofs (disch := omega)
      refine .then (.thenT ?_)
      simp -implicitDefEqProofs (disch := omega)
      refine .cut (grow_block (N := 70) (n := a.length) (X := fun _ => True) (LB := [7, 30, 29, 28, 27, 26]) (by omega) (by omega) (.inr ⟨id, ver, _, rfl, hgs, by simp⟩) rfl (fun _ _ _ _ _ _ => trivial) (fun _ _ _ _ => trivial) (body_byte u28 (by kernel_rfl) v5 u3 u5 (by omega) (by decide)) (by simp) (by decide) (by decide)) ?_
      show ToW _ _ _ _ _ _ _ _
      refine .of ?_
      have htk : (objs.set id (AO.cells (ints .u8 (a.map spF)) ver)).take objs.length = objs.set id (AO.cells (ints .u8 (a.map spF)) ver) := List.take_of_length_le (by simp)
      simp -implicitDefEqProofs (disch := omega) [grownEnv, wd, ud, un, c_TurnedR, k_TurnedR, c_SameR, k_SameR, hn2, hb2, hc2, hl, htk, hid, wrap_small]
  · cases hR)
theorem apart_two {a : List Int} {n : Nat} {u : V} (hn : n = a.length) (h0 : 0 < n) (hl : n < 140737488354000) (hu : ofInts .u8 u = some a) :
    k_Apart [.ref 0 0 0 n 1, .ref 1 0 0 n 1, u] [.cells (ints .u8 a) 0, .cells (ints .u8 a) 0] = some (.bool true, some ([.cells (ints .u8 (a.map spF)) 0, .cells (ints .u8 a) 0], 0)) := by
  subst hn
  have h1 : ofIntsR .u8 [.cells (ints .u8 a) 0, .cells (ints .u8 a) 0] (.ref 1 0 0 a.length 1) = some a := ofIntsR_ref rfl rfl
  have h2 : ofIntsR .u8 [.cells (ints .u8 (a.map spF)) 0, .cells (ints .u8 a) 0] (.ref 1 0 0 a.length 1) = some a := ofIntsR_ref rfl rfl
  have h3 : clean 2 [.cells (ints .u8 (a.map spF)) 0, .cells (ints .u8 a) 0] = true := by simp [clean]
  have hz : ¬ a.length = 0 := by omega
  have hz2 : ¬ a = [] := fun q => hz (by rw [q]; rfl)
  simp [k_Apart, con3, Ab.getObj, ofCellsI_ints, hl, h1, h2, h3, ofIntsR_of hu, hz2, bnd_pos]
theorem apart_nil {u : V} (hu : ofInts .u8 u = some []) : k_Apart [.nils, .nils, u] [] = some (.bool true, none) := by
  have h1 : ofIntsR .u8 [] V.nils = some [] := rfl
  simp [k_Apart, con3, h1, ofIntsR_of hu]
theorem apart_one {a : List Int} {cs : List V} {ver n : Nat} {u : V} (hcs : norefs 3 cs = true) (hn : n = a.length) (h0 : 0 < n) (hl : n < 140737488354000) (hu : ofInts .u8 u = some a) :
    k_Apart [.ref 1 0 0 n 1, .ref 2 0 0 n 1, u] [.cells cs ver, .cells (ints .u8 a) 0, .cells (ints .u8 a) 0] = some (.bool true, some ([.cells cs ver, .cells (ints .u8 (a.map spF)) 0, .cells (ints .u8 a) 0], 1)) := by
  subst hn
  have h1 : ofIntsR .u8 [.cells cs ver, .cells (ints .u8 a) 0, .cells (ints .u8 a) 0] (.ref 2 0 0 a.length 1) = some a := ofIntsR_ref rfl rfl
  have h2 : ofIntsR .u8 [.cells cs ver, .cells (ints .u8 (a.map spF)) 0, .cells (ints .u8 a) 0] (.ref 2 0 0 a.length 1) = some a := ofIntsR_ref rfl rfl
  have h3 : clean 3 [.cells cs ver, .cells (ints .u8 (a.map spF)) 0, .cells (ints .u8 a) 0] = true := by simp [clean, hcs]
  have hz : ¬ a.length = 0 := by omega
  have hz2 : ¬ a = [] := fun q => hz (by rw [q]; rfl)
  simp [k_Apart, con3, Ab.getObj, ofCellsI_ints, hl, h1, h2, h3, ofIntsR_of hu, hz2, bnd_pos]

theorem rowH_spoil {objs : List AO} {v : V} {l : List Int} (h : rowH objs v l) (hl : l.length < 140737488355000) : ∃ r, k_Spoil [v] objs = some (.tup [], r) ∧ ((r = none ∧ l = []) ∨ ∃ id ver, v = .ref id ver 0 l.length 1 ∧ 0 < l.length ∧ r = some (objs.set id (.cells (ints .u8 (l.map spF)) ver), id)) := by
  rcases h with ⟨rfl, rfl⟩ | ⟨id, ver, rfl, hg⟩
  · exact ⟨none, by simp [k_Spoil], .inl ⟨rfl, rfl⟩⟩
  · by_cases hz : l.length = 0
    · obtain rfl := List.eq_nil_of_length_eq_zero hz
      exact ⟨none, by simp [k_Spoil, hg, ofCellsI_ints, bnd_pos], .inl ⟨rfl, rfl⟩⟩
    · have hz2 : ¬ l = [] := fun q => hz (by rw [q]; rfl)
      exact ⟨_, by simp [k_Spoil, hg, ofCellsI_ints, bnd_pos, hl, hz2], .inr ⟨id, ver, rfl, by omega, rfl⟩⟩
def lens (ls : List (List Int)) : Nat := (ls.map fun l => l.length + 70).sum
theorem lens_take {ls : List (List Int)} : ∀ {i : Nat}, i < ls.length → lens (ls.take (i + 1)) = lens (ls.take i) + ((nth ls i).length + 70) := by
  intro i hi
  unfold lens
  rw [take_nth hi, List.map_append, List.sum_append]; simp
theorem lens_le {ls : List (List Int)} (i : Nat) : lens (ls.take i) ≤ lens ls := by
  unfold lens
  have e : ls.map (fun l => l.length + 70) = (ls.take i).map (fun l => l.length + 70) ++ (ls.drop i).map (fun l => l.length + 70) := by rw [← List.map_append, List.take_append_drop]
  rw [e, List.sum_append]; omega
theorem lens_mem {ls : List (List Int)} {i : Nat} (h : i < ls.length) : (nth ls i).length + 70 ≤ lens ls := by
  have h1 := lens_take h
  have h2 := lens_le (ls := ls) (i + 1)
  omega
theorem lens_count {ls : List (List Int)} : ls.length * 70 ≤ lens ls := by
  unfold lens
  induction ls with
  | nil => simp
  | cons a l ih => simp only [List.map_cons, List.sum_cons, List.length_cons]; omega
def p_ApartAll : List V → List AO → Rs → Prop := fun args objs r => match args with | [v, _] => ∃ objs' low', r = (.bool true, some (objs', low')) ∧ ∀ vs ls, Sl v vs ls.length → Held objs vs ls → Spoiled spF objs vs ls objs' | _ => False
noncomputable def k_ApartAll : Ab.Spec := relF (fun a o r => p_ApartAll a o r ∧ EndsW Tryd.prog (annOf [] [] [] true [42]) T_Apart 19 Tryd.f19 a o r)
noncomputable def T_ApartAll : CallF := withF T_Apart 19 k_ApartAll
theorem T_ApartAll_ok : CallOk Tryd.prog T_ApartAll := con_ofW (A := annOf [] [] [] true [42]) fit T_Apart_ok (fn := Tryd.f19) (by kernel_rfl) (by kernel_rfl) (fun args objs r h0 => (relF_inv h0).2)
theorem s_ApartAll  {objs : List AO} {v w : V} {vs ws : List V} {ls : List (List Int)} (hv : Sl v vs ls.length) (hw : Sl w ws ls.length) (hws : ∀ i, i < ls.length → ∃ c, ws[i]? = some c ∧ ofInts .u8 c = some (nth ls i)) (hH : Held objs vs ls) (hsum : lens ls < 140737488354000) : ∃ r, k_ApartAll [v, w] objs = some r ∧ p_ApartAll [v, w] objs r := by
  have c_SameR : ∀ a o, T_Apart 26 a o = k_SameR a o := fun _ _ => rfl
  have c_TurnedR : ∀ a o, T_Apart 43 a o = k_TurnedR a o := fun _ _ => rfl
  have c_Spoil : ∀ a o, T_Apart 42 a o = k_Spoil a o := fun _ _ => rfl
  refine rel_go _ rfl rfl ?_
  have vd := hv.dem
  have wd := hw.dem
  have vn := hv.size u43
  have wn := hw.size u43
  have vi := hv.idx u43 z28
  have wi := hw.idx u43 z28
  have hcn := lens_count (ls := ls)
  have row : ∀ i, i < ls.length → ∃ a c, vs[i]? = some a ∧ (∀ h : i < vs.length, vs[i]'h = a) ∧ rowH objs a (nth ls i) ∧ ws[i]? = some c ∧ (∀ h : i < ws.length, ws[i]'h = c) ∧ ofInts .u8 c = some (nth ls i) ∧ demote a = a ∧ demote c = c := by
    intro i hi
    obtain ⟨a, a1, a2⟩ := hH.row i hi
    obtain ⟨c, c1, c2⟩ := hws i hi
    exact ⟨a, c, a1, of_get a1, a2, c1, of_get c1, c2, a2.one.1, (bs c2).1⟩
  refine .thenT ?_
  simp
  refine .thenT ?_
  simp -implicitDefEqProofs (disch := omega) [vn, wn]
  refine .then (.thenT ?_)
  simp -implicitDefEqProofs (disch := omega)
  refine .of ?_
  simp -implicitDefEqProofs
  refine .up ls.length (fun i s => s.env 0 = v ∧ s.env 1 = w ∧ s.env 5 = .int .i64 i ∧ s.toks = [] ∧ s.objs = objs ∧ s.low = objs.length) (by simp) ?_
  rintro i s hi ⟨h0, h1, h5, ht, ho, hlo⟩
  rcases Nat.lt_or_ge i ls.length with h | h
  · obtain ⟨a, c, a1, a1', a2, c1, c1', c2, ad, cd⟩ := row i h
    have ea := a2.bytes
    have ec := ofIntsR_of (objs := objs) c2
    have hl := lens_mem h
    have e1 := vi .i64 i (by omega) (by omega)
    have e2 := wi .i64 i (by omega) (by omega)
    rw [Int.toNat_natCast, Nat.mul_one] at e1 e2
    simp -implicitDefEqProofs (disch := omega) [h0, h1, h5, ht, ho, hlo, vn, wn, e1, e2, h, a1, a1', c1, c1', ad, cd, c_SameR, k_SameR, ea, ec, wrap_small]
  obtain rfl : i = ls.length := by omega
  simp -implicitDefEqProofs (disch := omega) [h0, h1, h5, ht, ho, hlo, vn, wn]
  refine .then (.thenT ?_)
  simp -implicitDefEqProofs (disch := omega)
  refine .of ?_
  simp -implicitDefEqProofs
  refine .up ls.length (fun i s => s.env 0 = v ∧ s.env 1 = w ∧ s.env 6 = .int .i64 i ∧ s.toks = [] ∧ s.objs.length = objs.length ∧ Held s.objs vs (spoilUp spF ls i) ∧ ∀ id ver, (∀ v, v ∈ vs → idOf v ≠ some id) → Ab.getObj s.objs id ver = Ab.getObj objs id ver) (by simp [h0, h1, ht, ho, spoilUp_zero, hH]) ?_
  rintro i s hi ⟨h0, h1, h6, ht, hlen, hHi, hoth⟩
  rcases Nat.lt_or_ge i ls.length with h | h
  · obtain ⟨a, a1, a2⟩ := hHi.row i (by rw [spoilUp_len (by omega)]; exact h)
    rw [spoilUp_ge (Nat.le_refl i) (by omega)] at a2
    have a1' := of_get a1
    have ad := a2.one.1
    have hl := lens_mem h
    have e1 := vi .i64 i (by omega) (by omega)
    rw [Int.toNat_natCast, Nat.mul_one] at e1
    obtain ⟨r, k1, k2⟩ := rowH_spoil a2 (by omega)
    rcases k2 with ⟨rfl, k3⟩ | ⟨id, ver, rfl, hpos, rfl⟩
    · have hH2 := hHi.spoil_nil h k3
      simp -implicitDefEqProofs (disch := omega) [h0, h1, h6, ht, vn, e1, h, a1, a1', ad, c_Spoil, k1, wrap_small, hlen, hH2]
      exact fun id ver hx => hoth id ver hx
    · have hH2 := hHi.spoil h a1
      have hnl : ¬ ((if id < s.low then id else s.low) < 0) := by omega
      simp -implicitDefEqProofs (disch := omega) [h0, h1, h6, ht, vn, e1, h, a1, a1', ad, c_Spoil, k1, wrap_small, hlen, hH2]
      intro id' ver' hx
      rw [getObj_set_ne (fun q => ?_)]
      · exact hoth id' ver' hx
      · exact hx _ (List.mem_of_getElem? a1) (by rw [← q]; rfl)
  obtain rfl : i = ls.length := by omega
  rw [spoilUp_all] at hHi
  obtain ⟨objs2, ho⟩ : ∃ o, o = s.objs := ⟨_, rfl⟩
  rw [← ho] at hlen hHi hoth
  have ho := ho.symm
  simp -implicitDefEqProofs (disch := omega) [h0, h1, h6, ht, ho, vn, wn]
  refine .thenT ?_
  simp -implicitDefEqProofs
  refine .then (.thenT ?_)
  simp -implicitDefEqProofs
  refine .block (.up ls.length (fun i s => s.env 0 = v ∧ s.env 1 = w ∧ s.env 7 = .int .i64 (lens (ls.take i)) ∧ s.env 8 = .int .i64 i ∧ s.toks = [] ∧ s.objs = objs2) (by simp [h0, h1, ht, ho, lens]) ?_)
  rintro i s hi ⟨h0, h1, h7, h8, ht, ho⟩
  rcases Nat.lt_or_ge i ls.length with h | h
  · obtain ⟨a, a1, a2⟩ := hHi.row i (by simpa using h)
    have hnm : nth (ls.map fun l => l.map spF) i = (nth ls i).map spF := nth_map h
    rw [hnm] at a2
    have a1' := of_get a1
    have ad := a2.one.1
    have hl := lens_mem h
    have hlt := lens_take h
    have hle := lens_le (ls := ls) (i + 1)
    have e1 := vi .i64 i (by omega) (by omega)
    rw [Int.toNat_natCast, Nat.mul_one] at e1
    refine .thenT ?_
    simp -implicitDefEqProofs (disch := omega) [h0, h1, h7, h8, ht, ho, vn, h]
    refine .then (.block (.thenT ?_))
    simp -implicitDefEqProofs (disch := omega) [h0, h1, h7, h8, ht, ho, e1, a1, a1', ad]
    refine .then (.thenT ?_)
    simp -implicitDefEqProofs (disch := omega) [h0, h1, h7, h8, ht, ho]
    have hbase : Base objs2 a (nth ls i).length := by
      rcases a2 with ⟨q1, q2⟩ | ⟨id, ver, q1, q2⟩
      · exact .inl ⟨q1, by have := congrArg List.length q2; simpa using this⟩
      · exact .inr ⟨id, ver, _, by rw [q1, List.length_map], q2, by simp⟩
    refine .cut (grow_block (N := 70) (n := (nth ls i).length) (X := fun a => ∃ m, a.eval (.tmp 8) = .int .i64 m) (LB := [9, 64, 63, 62, 61, 60, 59, 58]) (by omega) (by omega) (by simpa [put_get] using hbase) rfl (fun G tl E w a hE => ?_) (fun a a' hk ⟨m, hm⟩ => ⟨m, by rw [hk.2.2 8 (by decide)]; exact hm⟩) (body_byte2 u28 (by kernel_rfl) v5 u3 u5 (by omega) (by decide) (by decide)) (by simp) (by decide) (by decide)) ?_
    · have q := (hE 8).1
      simp [put_get, h8] at q
      exact ⟨i, by simpa [Act.eval] using q.int_inv⟩
    show ToW _ _ _ _ _ _ _ _
    refine .of ?_
    simp -implicitDefEqProofs (disch := omega) [grownEnv, h0, h1, h7, h8, ht, ho]
    refine .of ?_
    simp -implicitDefEqProofs (disch := omega) [grownEnv, h0, h1, h7, h8, ht, ho, h, wrap_small]
    omega
  obtain rfl : i = ls.length := by omega
  rw [List.take_length] at h7
  refine .thenT ?_
  simp -implicitDefEqProofs (disch := omega) [h0, h1, h7, h8, ht, ho, vn]
  refine .then (.thenT ?_)
  simp -implicitDefEqProofs (disch := omega) [h0, h1, h7, h8, ht, ho]
  refine .of ?_
  simp -implicitDefEqProofs
  refine .up ls.length (fun i s => s.env 0 = v ∧ s.env 1 = w ∧ s.env 7 = .int .i64 (lens ls) ∧ s.env 11 = .int .i64 i ∧ s.toks = [] ∧ s.objs = objs2) (by simp [h0, h1, h7, ht, ho]) ?_
  rintro i s hi ⟨h0, h1, h7, h11, ht, ho⟩
  rcases Nat.lt_or_ge i ls.length with h | h
  · obtain ⟨a, a1, a2⟩ := hHi.row i (by simpa using h)
    obtain ⟨_, c, _, _, _, c1, c1', c2, _, cd⟩ := row i h
    have hnm : nth (ls.map fun l => l.map spF) i = (nth ls i).map spF := nth_map h
    rw [hnm] at a2
    have a1' := of_get a1
    have ad := a2.one.1
    have ea := a2.bytes
    have ec := ofIntsR_of (objs := objs2) c2
    have hl := lens_mem h
    have e1 := vi .i64 i (by omega) (by omega)
    have e2 := wi .i64 i (by omega) (by omega)
    rw [Int.toNat_natCast, Nat.mul_one] at e1 e2
    simp -implicitDefEqProofs (disch := omega) [h0, h1, h7, h11, ht, ho, vn, wn, e1, e2, h, a1, a1', c1, c1', ad, cd, c_TurnedR, k_TurnedR, ea, ec, wrap_small]
  obtain rfl : i = ls.length := by omega
  have hge : ((lens ls : Nat) : Int) ≥ 0 := by omega
  simp -implicitDefEqProofs (disch := omega) [h0, h1, h7, h11, ht, ho, vn, wn]
  refine .of ?_
  simp -implicitDefEqProofs (disch := omega) [h0, h1, h7, h11, ht, ho, hge]
  refine ⟨objs2, _, rfl, fun vs' ls' h1 h2 => ?_⟩
  obtain ⟨rfl, -⟩ := hv.inj h1
  obtain rfl := hH.inj h2
  exact ⟨hlen, hHi, hoth⟩

end Go.Proofs.YtiaihiccaoibgaaDoor.B

import Derived.Test.YtjjldepikokogaaPxTy
import Derived.Test.YtjjldepikokogaaAb31
set_option linter.unusedSimpArgs false
set_option linter.unusedVariables false
set_option linter.unusedSectionVars false
set_option maxRecDepth 20000
set_option maxHeartbeats 1000000
namespace Go.Proofs.Ytjjldepikokogaa.B
open Go Go.Ab
theorem fit : Fit Try.prog := fit_of (by kernel_rfl)
def Tnone : CallF := fun _ _ _ => none
theorem Tnone_ok : CallOk Try.prog Tnone := con_none
/-! slices of bytes that come in -/
theorem bs {v : V} {l : List Int} (h : ofInts .u8 v = some l) : demote v = v ∧ lenV Try.prog 25 v = some (.int .i64 l.length) ∧ (∀ k i, 0 ≤ i → i < (l.length : Int) → indexV Try.prog 25 v (.int k i) = some (.fptr (ints .u8 l) i.toNat)) ∧
    (∀ objs e, srcOf (.slice e) objs 1 v = some (ints .u8 l)) ∧ isDef v = true ∧ cellsOf v = [v] ∧ oneCell v = true ∧ ∀ b, Ab.noref b v = true := by
  have w := ofInts_inv h
  refine ⟨w.dem, w.size u25, fun k i h0 h1 => ?_, fun objs e => w.src (by simp) (by simp) objs e, w.isDef, w.cells, w.one, fun b => w.noref (by simp)⟩
  have := w.idx u25 z5 k i h0 h1
  rwa [Nat.mul_one] at this
theorem bcut {v : V} {l : List Int} (h : ofInts .u8 v = some l) (objs : List AO) (lo hi : Option V) (a b : Nat) (ha : boundV lo 0 = some a) (hb : boundV hi l.length = some b) (hab : a ≤ b) (hl : b ≤ l.length) :
    ∃ w, cutV Try.prog 25 objs v lo hi none = some w ∧ ofInts .u8 w = some ((l.take b).drop a) := by
  obtain ⟨w, h1, h2⟩ := (ofInts_inv h).cut u25 z5 objs lo hi a b ha hb hab hl
  refine ⟨w, h1, ?_⟩
  rw [Nat.mul_one, Nat.mul_one, ints_take, ints_drop] at h2
  exact h2.ofInts (by simp; omega)
theorem blit1 (c : Int) : listV Try.prog 25 1 [(0, .int .u8 c)] = some ([.int .u8 c], 1) := by simp [listV, fillV, zeros, setCells]
theorem blit0 : listV Try.prog 25 0 [] = some ([], 1) := by simp [listV, fillV, zeros]
/-- A row of bytes that is appended to; one that stands in an object. -/
def tokB (l : List Int) : V := .lst (.tok 0 1) (ints .u8 l) l.length
theorem getObj_last {objs : List AO} {cs : List V} {v : Nat} : Ab.getObj (objs ++ [.cells cs v]) objs.length v = some cs := by simp [Ab.getObj]
theorem getObj_last0 {objs : List AO} {cs : List V} {v : Nat} (n : Nat) (h : n = objs.length) : Ab.getObj (objs ++ [.cells cs v]) n v = some cs := by simp [Ab.getObj, h]
theorem set_last {objs : List AO} {a b : AO} : (objs ++ [a]).set objs.length b = objs ++ [b] := by simp
theorem take_last {objs : List AO} {a : AO} : (objs ++ [a]).take objs.length = objs := by simp
theorem getObj_two {objs : List AO} {a : AO} {cs : List V} {v : Nat} : Ab.getObj (objs ++ [a, .cells cs v]) (objs.length + 1) v = some cs := by simp [Ab.getObj]
theorem getObj_one {objs : List AO} {a : AO} {cs : List V} {v : Nat} : Ab.getObj (objs ++ [.cells cs v, a]) objs.length v = some cs := by simp [Ab.getObj]

noncomputable def k_Same : Ab.Spec := con2 (ofInts .u8) (ofInts .u8) fun a b _ => bnd a.length 140737488355328 (some (.bool (decide (a = b)), none))
noncomputable def T_Same : CallF := withF Tnone 22 k_Same
theorem T_Same_ok : CallOk Try.prog T_Same := con_of (A := annOf [] [] [] false []) fit Tnone_ok (fn := Try.f22) (by kernel_rfl) (by kernel_rfl) (by
  intro args objs r h0
  obtain ⟨v, w, a, b, rfl, ha, hb, hR⟩ := con2_inv h0
  obtain ⟨hl, hR⟩ := bnd_inv hR
  cases hR
  obtain ⟨vd, vn, vi, -⟩ := bs ha
  obtain ⟨wd, wn, wi, -⟩ := bs hb
  refine .go _ rfl rfl ?_
  by_cases hn : a.length = b.length
  · simp [vn, wn, hn]
    refine .up a.length (fun i s => s.env 0 = v ∧ s.env 1 = w ∧ s.env 5 = .int .i64 i ∧ s.toks = [] ∧ s.objs = objs ∧ s.low = objs.length ∧ ∀ j, j < i → nth a j = nth b j) (by simp) ?_
    rintro i s hi ⟨h0, h1, h5, ht, ho, hlo, hj⟩
    rcases Nat.lt_or_ge i a.length with h | h
    · by_cases he : nth a i = nth b i
      · have hf : (nth a i != nth b i) = false := by simpa using he
        have hs : ∀ j, j < i + 1 → nth a j = nth b j := fun j hj2 => by
          rcases Nat.lt_or_ge j i with h2 | h2
          · exact hj j h2
          · obtain rfl : j = i := by omega
            exact he
        simp (disch := omega) [h0, h1, h5, ht, ho, hlo, vn, wn, vi, wi, h, ints_nth, hf, wrap_small]
        exact hs
      · have hf : (nth a i != nth b i) = true := by simpa using he
        have hne : a ≠ b := fun q => he (by rw [q])
        simp (disch := omega) [h0, h1, h5, ht, ho, hlo, vn, wn, vi, wi, h, ints_nth, hf, hne]
    · have hab : a = b := ext_nth hn fun j h2 => hj j (by omega)
      have hnl : ¬ i < b.length := by omega
      simp [h0, h1, h5, ht, ho, hlo, vn, wn, hab, hnl]
  · have hf : ((a.length : Int) != (b.length : Int)) = true := by simp only [bne_iff_ne, ne_eq]; omega
    have hne : a ≠ b := fun q => hn (by rw [q])
    simp [vn, wn, hf, hne])

noncomputable def k_Copy : Ab.Spec := con1 (ofInts .u8) fun l _ => bnd l.length 140737488355300 (some (.lst (.fresh 1 true) (ints .u8 l) l.length, none))
noncomputable def T_Copy : CallF := withF T_Same 21 k_Copy
theorem T_Copy_ok : CallOk Try.prog T_Copy := con_of (A := annOf [] [5,18] [] false []) fit T_Same_ok (fn := Try.f21) (by kernel_rfl) (by kernel_rfl) (by
  intro args objs r h0
  obtain ⟨v, l, rfl, ha, hR⟩ := con1_inv h0
  obtain ⟨hl, hR⟩ := bnd_inv hR
  cases hR
  obtain ⟨vd, vn, vi, -⟩ := bs ha
  refine .go _ rfl rfl ?_
  simp [blit0]
  refine .up l.length (fun i s => s.env 0 = v ∧ s.env 3 = .ref objs.length i 0 i 1 ∧ s.env 4 = .int .i64 i ∧ s.toks = [] ∧ s.objs = objs ++ [.cells (ints .u8 (l.take i)) i] ∧ s.low = objs.length) (by simp [ints_nil]) ?_
  rintro i s hi ⟨h0, h3, h4, ht, ho, hlo⟩
  rcases Nat.lt_or_ge i l.length with h | h
  · have e := take_nth h
    simp (disch := omega) [h0, h3, h4, ht, ho, hlo, vn, vi, h, ints_nth, blit1, e, wrap_small, getObj_last, Nat.mod_one]
  · obtain rfl : i = l.length := by omega
    simp [h0, h3, h4, ht, ho, hlo, vn, getObj_last])

noncomputable def k_Cat : Ab.Spec := con2 (ofInts .u8) (ofInts .u8) fun a b _ => bnd (a.length + b.length) 140737488355300 (some (.lst (.fresh 1 false) (ints .u8 (a ++ b)) (a.length + b.length), none))
noncomputable def T_Cat : CallF := withF T_Copy 20 k_Cat
theorem T_Cat_ok : CallOk Try.prog T_Cat := con_of (A := annOf [8] [] [] false []) fit T_Copy_ok (fn := Try.f20) (by kernel_rfl) (by kernel_rfl) (by
  intro args objs r h0
  obtain ⟨v, w, a, b, rfl, ha, hb, hR⟩ := con2_inv h0
  obtain ⟨hl, hR⟩ := bnd_inv hR
  cases hR
  obtain ⟨vd, vn, vi, -⟩ := bs ha
  obtain ⟨wd, wn, wi, -⟩ := bs hb
  refine .go _ rfl rfl ?_
  simp [blit0]
  refine .up a.length (fun i s => s.env 0 = v ∧ s.env 1 = w ∧ s.env 5 = .lst (.tok 0 1) (ints .u8 (a.take i)) i ∧ s.env 6 = .int .i64 i ∧ s.toks = [i] ∧ s.objs = objs ∧ s.low = objs.length) (by simp [ints_nil]) ?_
  rintro i s hi ⟨h0, h1, h5, h6, ht, ho, hlo⟩
  rcases Nat.lt_or_ge i a.length with h | h
  · have e := take_nth h
    have hm : min i a.length = i := by omega
    simp (disch := omega) [h0, h1, h5, h6, ht, ho, hlo, vn, vi, h, ints_nth, blit1, e, wrap_small, Nat.mod_one, hm]
  · obtain rfl : i = a.length := by omega
    simp [h0, h1, h5, h6, ht, ho, hlo, vn]
    refine .up b.length (fun i s => s.env 1 = w ∧ s.env 5 = .lst (.tok 0 1) (ints .u8 (a ++ b.take i)) (a.length + i) ∧ s.env 7 = .int .i64 i ∧ s.toks = [a.length + i] ∧ s.objs = objs ∧ s.low = objs.length) (by simp [h0, h1, h5, h6, ht, ho, hlo]) ?_
    rintro i s hi ⟨h1, h5, h7, ht, ho, hlo⟩
    rcases Nat.lt_or_ge i b.length with h | h
    · have e := take_nth h
      have hm : min i b.length = i := by omega
      simp (disch := omega) [h1, h5, h7, ht, ho, hlo, wn, wi, h, ints_nth, blit1, e, wrap_small, Nat.mod_one, hm, Nat.add_assoc]
    · obtain rfl : i = b.length := by omega
      simp [h1, h5, h7, ht, ho, hlo, wn])

def pieceZ (l : List Int) (lo hi : Int) : List Int := (l.take hi.toNat).drop lo.toNat
theorem pieceZ_len (l : List Int) (lo hi : Int) : (pieceZ l lo hi).length = min hi.toNat l.length - lo.toNat := by simp [pieceZ]
noncomputable def k_Piece : Ab.Spec := con3 (ofInts .u8) (ofInt .i64) (ofInt .i64) fun l lo hi _ => bnd l.length 140737488355300 (if lo < 9223372036854775807 then some (.lst (.fresh 1 false) (ints .u8 (pieceZ l lo hi)) (pieceZ l lo hi).length, none) else none)
noncomputable def T_Piece : CallF := withF T_Cat 41 k_Piece
theorem T_Piece_ok : CallOk Try.prog T_Piece := con_of (A := annOf [9] [] [] false []) fit T_Cat_ok (fn := Try.f41) (by kernel_rfl) (by kernel_rfl) (by
  intro args objs r h0
  obtain ⟨v, _, _, l, lo, hi, rfl, ha, hb, hc, hR⟩ := con3_inv h0
  obtain rfl := ofInt_inv hb
  obtain rfl := ofInt_inv hc
  obtain ⟨hl, hR⟩ := bnd_inv hR
  split at hR
  case isFalse => cases hR
  rename_i hlo9
  cases hR
  obtain ⟨vd, vn, vi, -⟩ := bs ha
  refine .go _ rfl rfl ?_
  simp [blit0]
  refine .stop (M := fun e s => e = .norm ∧ s.env 0 = v ∧ s.env 2 = .int .i64 hi ∧ s.env 1 = .int .i64 (lo.toNat : Int) ∧ s.env 7 = .lst (.tok 0 1) [] 0 ∧ s.toks = [0] ∧ s.objs = objs ∧ s.low = objs.length) ?_ ?_
  · by_cases h : lo < 0
    · have : (max lo 0) = 0 := by omega
      simp [h, At, this]
    · have : max lo 0 = lo := by omega
      simp [h, At, this]
  rintro e s ⟨rfl, h0, h2, h1, h7, ht, ho, hlo⟩
  unfold pieceZ
  obtain ⟨p, hp⟩ : ∃ p, lo.toNat = p := ⟨_, rfl⟩
  rw [hp] at h1 ⊢
  simp [h0, h2, h1, h7, ht, ho, hlo]
  refine .up (l.length - p) (fun i s => s.env 0 = v ∧ s.env 2 = .int .i64 hi ∧ s.env 8 = .int .i64 ((p + i : Nat) : Int) ∧ s.env 7 = .lst (.tok 0 1) (ints .u8 ((l.drop p).take i)) i ∧ s.toks = [i] ∧ s.objs = objs ∧ s.low = objs.length ∧ (i = 0 ∨ ((p + i : Nat) : Int) ≤ hi)) (by simp [h0, h2, h1, h7, ht, ho, hlo, ints_nil]) ?_
  rintro i s hi9 ⟨h0, h2, h8, h7, ht, ho, hlo, hd⟩
  have fin : ¬ (p + i < l.length ∧ ((p + i : Nat) : Int) < hi) → (l.drop p).take i = (l.take hi.toNat).drop p := by
    intro hn
    rw [List.drop_take]
    rcases Nat.lt_or_ge (p + i) l.length with h | h
    · have h3 : hi ≤ ((p + i : Nat) : Int) := by
        rcases Int.lt_or_le ((p + i : Nat) : Int) hi with h3 | h3
        · exact absurd ⟨h, h3⟩ hn
        · exact h3
      rcases hd with rfl | hd
      · have : hi.toNat - p = 0 := by omega
        rw [this]
      · congr 1; omega
    · rw [List.take_of_length_le (by simp; omega), List.take_of_length_le]
      rcases hd with rfl | hd
      · simp; omega
      · simp; omega
  have hm : min i (l.length - p) = i := by omega
  by_cases h : p + i < l.length
  · by_cases h3 : ((p + i : Nat) : Int) < hi
    · have e : (l.drop p).take (i + 1) = (l.drop p).take i ++ [nth l (p + i)] := by rw [take_nth (by simp; omega), nth_drop]
      have h4 : i < l.length - p := by omega
      have h5 : ((p + i : Nat) : Int) + 1 ≤ hi := by omega
      simp only [Int.natCast_add] at h3 h5
      have hI : (p : Int) + (i : Int) < l.length := by omega
      simp (disch := omega) [h0, h2, h8, h7, ht, ho, hlo, vn, vi, h, h3, h4, h5, ints_nth, blit1, e, wrap_small, Nat.mod_one, hm]
      try omega
    · have f := fin (fun q => h3 q.2)
      rw [← f]
      simp only [Int.natCast_add] at h3
      simp (disch := omega) [h0, h2, h8, h7, ht, ho, hlo, vn, hm]
      omega
  · have f := fin (fun q => h q.1)
    rw [← f]
    simp (disch := omega) [h0, h2, h8, h7, ht, ho, hlo, vn, hm]
    omega)

def mkZ (i : Int) : Int := IntKind.u8.wrap (IntKind.i64.wrap (192 + i.tmod 7))
def marks (n : Nat) : List Int := (List.range n).map fun i : Nat => mkZ i
def wide (l : List Int) : List Int := l ++ marks 64
theorem marks_len (n : Nat) : (marks n).length = n := by simp [marks]
theorem wide_len (l : List Int) : (wide l).length = l.length + 64 := by simp [wide, marks_len]
theorem marks_succ (n : Nat) : marks (n + 1) = marks n ++ [mkZ n] := by simp [marks, List.range_succ]
theorem marks_nth {n i : Nat} (h : i < n) : nth (marks n) i = mkZ i := by
  unfold marks
  rw [nth_map (by simpa using h)]
  congr 1
  simp [nth, h]
noncomputable def k_Wide : Ab.Spec := con1 (ofInts .u8) fun l _ => bnd l.length 140737488355000 (some (.lst (.fresh 1 true) (ints .u8 (wide l)) (l.length + 64), none))
noncomputable def T_Wide : CallF := withF T_Piece 13 k_Wide
theorem T_Wide_ok : CallOk Try.prog T_Wide := con_of (A := annOf [] [17] [(6, [.ref])] false []) fit T_Piece_ok (fn := Try.f13) (by kernel_rfl) (by kernel_rfl) (by
  intro args objs r h0
  have c_Copy : ∀ a o, T_Piece 21 a o = k_Copy a o := fun _ _ => rfl
  obtain ⟨v, l, rfl, ha, hR⟩ := con1_inv h0
  obtain ⟨hl, hR⟩ := bnd_inv hR
  cases hR
  obtain ⟨vd, vn, vi, -⟩ := bs ha
  refine .go _ rfl rfl ?_
  simp (disch := omega) [c_Copy, k_Copy, vd, ha]
  refine .up 64 (fun i s => s.env 3 = .ref objs.length i 0 (l.length + i) 1 ∧ s.env 4 = .int .i64 i ∧ s.toks = [] ∧ s.objs = objs ++ [.cells (ints .u8 (l ++ marks i)) i] ∧ s.low = objs.length) (by simp [marks]) ?_
  rintro i s hi ⟨h3, h4, ht, ho, hlo⟩
  rcases Nat.lt_or_ge i 64 with h | h
  · have e := marks_succ i
    have hz : (i : Int) < 64 := by omega
    simp (disch := omega) [h3, h4, ht, ho, hlo, h, hz, blit1, e, wrap_small, getObj_last, Nat.mod_one, marks_len, convV, mkZ, Nat.add_assoc]
  · obtain rfl : i = 64 := by omega
    simp [h3, h4, ht, ho, hlo, getObj_last, marks_len, wide])

noncomputable def k_Intact : Ab.Spec := con2 (ofInts .u8) (ofInts .u8) fun w l _ => bnd (w.length + l.length) 281474976710656 (some (.bool (decide (w = wide l)), none))
noncomputable def T_Intact : CallF := withF T_Wide 19 k_Intact
theorem T_Intact_ok : CallOk Try.prog T_Intact := con_of (A := annOf [] [] [] false []) fit T_Wide_ok (fn := Try.f19) (by kernel_rfl) (by kernel_rfl) (by
  intro args objs r h0
  obtain ⟨v, w, a, b, rfl, ha, hb, hR⟩ := con2_inv h0
  obtain ⟨hl, hR⟩ := bnd_inv hR
  cases hR
  obtain ⟨vd, vn, vi, -⟩ := bs ha
  obtain ⟨wd, wn, wi, -⟩ := bs hb
  refine .go _ rfl rfl ?_
  by_cases hn : a.length = b.length + 64
  · have hw : IntKind.i64.wrap ((b.length : Int) + 64) = (b.length : Int) + 64 := wrap_small (by omega) (by omega)
    have hn2 : ((a.length : Int) != (b.length : Int) + 64) = false := by simp only [bne_eq_false_iff_eq]; omega
    simp [vn, wn, hw, hn2]
    refine .up b.length (fun i s => s.env 0 = v ∧ s.env 1 = w ∧ s.env 5 = .int .i64 i ∧ s.toks = [] ∧ s.objs = objs ∧ s.low = objs.length ∧ ∀ j, j < i → nth a j = nth b j) (by simp) ?_
    rintro i s hi ⟨h0, h1, h5, ht, ho, hlo, hj⟩
    rcases Nat.lt_or_ge i b.length with h | h
    · by_cases he : nth a i = nth b i
      · have hf : (nth a i != nth b i) = false := by simpa using he
        have hs : ∀ j, j < i + 1 → nth a j = nth b j := fun j hj2 => by
          rcases Nat.lt_or_ge j i with h2 | h2
          · exact hj j h2
          · obtain rfl : j = i := by omega
            exact he
        simp (disch := omega) [h0, h1, h5, ht, ho, hlo, vn, wn, vi, wi, h, ints_nth, hf, wrap_small]
        exact hs
      · have hf : (nth a i != nth b i) = true := by simpa using he
        have hne : a ≠ wide b := fun q => he (by rw [q, wide, nth_app_l h])
        simp (disch := omega) [h0, h1, h5, ht, ho, hlo, vn, wn, vi, wi, h, ints_nth, hf, hne]
    · obtain rfl : i = b.length := by omega
      simp [h0, h1, h5, ht, ho, hlo, vn, wn]
      refine .up 64 (fun i s => s.env 0 = v ∧ s.env 1 = w ∧ s.env 6 = .int .i64 i ∧ s.toks = [] ∧ s.objs = objs ∧ s.low = objs.length ∧ ∀ j, j < i → nth a (b.length + j) = mkZ j) (by simp [h0, h1, ht, ho, hlo]) ?_
      rintro i s hi ⟨h0, h1, h6, ht, ho, hlo, hj2⟩
      rcases Nat.lt_or_ge i 64 with h | h
      · have hz : (i : Int) < 64 := by omega
        have hwi : IntKind.i64.wrap ((b.length : Int) + i) = (b.length : Int) + i := wrap_small (by omega) (by omega)
        by_cases he : nth a (b.length + i) = mkZ i
        · have hf : (nth a (b.length + i) != mkZ i) = false := by simpa using he
          have hs : ∀ j, j < i + 1 → nth a (b.length + j) = mkZ j := fun j hj3 => by
            rcases Nat.lt_or_ge j i with h2 | h2
            · exact hj2 j h2
            · obtain rfl : j = i := by omega
              exact he
          unfold mkZ at hf
          simp (disch := omega) [h0, h1, h6, ht, ho, hlo, vn, wn, vi, h, hz, ints_nth, hf, wrap_small, convV, hwi]
          exact hs
        · have hf : (nth a (b.length + i) != mkZ i) = true := by simpa using he
          have hne : a ≠ wide b := fun q => he (by rw [q, wide, nth_app_r (by omega), Nat.add_sub_cancel_left, marks_nth h])
          unfold mkZ at hf
          simp (disch := omega) [h0, h1, h6, ht, ho, hlo, vn, wn, vi, h, hz, ints_nth, hf, wrap_small, convV, hwi, hne]
      · obtain rfl : i = 64 := by omega
        have hab : a = wide b := ext_nth (by rw [hn, wide_len]) fun j h2 => by
          rcases Nat.lt_or_ge j b.length with h3 | h3
          · rw [hj j h3, wide, nth_app_l h3]
          · have := hj2 (j - b.length) (by omega)
            rw [show b.length + (j - b.length) = j by omega] at this
            rw [this, wide, nth_app_r h3, marks_nth (by omega)]
        simp [h0, h1, h6, ht, ho, hlo, hab]
  · have hw : IntKind.i64.wrap ((b.length : Int) + 64) = (b.length : Int) + 64 := wrap_small (by omega) (by omega)
    have hn2 : ((a.length : Int) != (b.length : Int) + 64) = true := by simp only [bne_iff_ne, ne_eq]; omega
    have hne : a ≠ wide b := fun q => hn (by rw [q, wide_len])
    simp [vn, wn, hw, hn2, hne])

/-! what a law is handed -/
def b8 (l : List Int) : Bool := l.all fun c => decide (0 ≤ c) && decide (c < 256)
theorem b8_iff {l : List Int} : b8 l = true ↔ ∀ c ∈ l, 0 ≤ c ∧ c < 256 := by simp [b8]
theorem wf_u8 {l : List Int} (h : ∀ c ∈ l, (Lit.int .u8 c).wf = true) : b8 l = true := b8_iff.2 fun c hc => by
  have := h c hc
  simp [Lit.wf, IntKind.min, IntKind.max] at this
  omega

end Go.Proofs.Ytjjldepikokogaa.B

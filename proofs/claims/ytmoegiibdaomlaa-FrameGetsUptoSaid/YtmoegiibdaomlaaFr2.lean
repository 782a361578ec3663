import Derived.Test.YtmoegiibdaomlaaFr1
set_option linter.unusedSimpArgs false
set_option linter.unusedVariables false
set_option linter.unusedSectionVars false
set_option maxRecDepth 20000
set_option maxHeartbeats 1000000
namespace Go.Proofs.Ytmoegiibdaomlaa.B
open Go Go.Ab
def divs : Nat → Int → Int | 0, v => v | i + 1, v => IntKind.u64.wrap ((divs i v).tdiv 256)
def lowZ (n : Nat) (v : Int) : List Int := (List.range n).map fun i => IntKind.u8.wrap ((divs i v).tmod 256)
theorem lowZ_len (n : Nat) (v : Int) : (lowZ n v).length = n := by simp [lowZ]
theorem lowZ_succ (n : Nat) (v : Int) : lowZ (n + 1) v = lowZ n v ++ [IntKind.u8.wrap ((divs n v).tmod 256)] := by simp [lowZ, List.range_succ]
noncomputable def k_Low : Ab.Spec := con2 (ofInt .u64) (ofInt .i64) fun v n _ => bnd n.toNat 140737488355300 (some (.lst (.fresh 1 false) (ints .u8 (lowZ n.toNat v)) n.toNat, none))
noncomputable def T_Low : CallF := withF T_Intact 28 k_Low
theorem T_Low_ok : CallOk Try.prog T_Low := con_of (A := annOf [7] [] [] false []) fit T_Intact_ok (fn := Try.f28) (by kernel_rfl) (by kernel_rfl) (by
  intro args objs r h0
  obtain ⟨_, _, v, n, rfl, ha, hb, hR⟩ := con2_inv h0
  obtain rfl := ofInt_inv ha
  obtain rfl := ofInt_inv hb
  obtain ⟨hl, hR⟩ := bnd_inv hR
  cases hR
  refine .go _ rfl rfl ?_
  simp [blit0]
  refine .up n.toNat (fun i s => s.env 0 = .int .u64 (divs i v) ∧ s.env 1 = .int .i64 n ∧ s.env 5 = .lst (.tok 0 1) (ints .u8 (lowZ i v)) i ∧ s.env 6 = .int .i64 i ∧ s.toks = [i] ∧ s.objs = objs ∧ s.low = objs.length) (by simp [ints_nil, divs, lowZ]) ?_
  rintro i s hi ⟨h0, h1, h5, h6, ht, ho, hlo⟩
  rcases Nat.lt_or_ge i n.toNat with h | h
  · have e := lowZ_succ i v
    have hn : (i : Int) < n := by omega
    simp (disch := omega) [h0, h1, h5, h6, ht, ho, hlo, blit1, e, wrap_small, Nat.mod_one, lowZ_len, convV, divs]
    exact hn
  · obtain rfl : i = n.toNat := by omega
    simp (disch := omega) [h0, h1, h5, h6, ht, ho, hlo, lowZ_len])

def vstep (v c : Int) : Int := IntKind.u64.wrap (IntKind.u64.wrap (v * 256) + IntKind.u64.wrap c)
def valZ (l : List Int) : Int := l.foldr (fun c v => vstep v c) 0
def canV (l : List Int) (at_ n : Int) : Bool := decide (0 ≤ at_ ∧ n ≤ l.length ∧ at_ ≤ (l.length : Int) - n)
noncomputable def k_Value : Ab.Spec := con3 (ofInts .u8) (ofInt .i64) (ofInt .i64) fun l p n _ => bnd l.length 140737488355300 (if 0 ≤ n ∧ n < 140737488355300 then some (if canV l p n = true then .tup [.int .u64 (valZ ((l.drop p.toNat).take n.toNat)), .bool true] else .tup [.int .u64 0, .bool false], none) else none)
noncomputable def T_Value : CallF := withF T_Low 36 k_Value
theorem T_Value_ok : CallOk Try.prog T_Value := con_of (A := annOf [] [] [] false []) fit T_Low_ok (fn := Try.f36) (by kernel_rfl) (by kernel_rfl) (by
  intro args objs r h0
  obtain ⟨v, _, _, l, p, n, rfl, ha, hb, hc, hR⟩ := con3_inv h0
  obtain rfl := ofInt_inv hb
  obtain rfl := ofInt_inv hc
  obtain ⟨hl, hR⟩ := bnd_inv hR
  split at hR
  case isFalse => cases hR
  rename_i hn
  obtain ⟨hn0, hn1⟩ := hn
  cases hR
  obtain ⟨vd, vn, vi, -⟩ := bs ha
  have hw : IntKind.i64.wrap ((l.length : Int) - n) = (l.length : Int) - n := wrap_small (by omega) (by omega)
  refine .go _ rfl rfl ?_
  by_cases h1 : p < 0
  · have hcan : canV l p n = false := by simp [canV]; omega
    simp (disch := omega) [vn, hcan]
  by_cases h2 : n > l.length
  · have hcan : canV l p n = false := by simp [canV]; omega
    simp (disch := omega) [vn, hcan]
  by_cases h3 : p > (l.length : Int) - n
  · have hcan : canV l p n = false := by simp [canV]; omega
    simp (disch := omega) [vn, hcan, hw]
  have hcan : canV l p n = true := by simp [canV]; omega
  obtain ⟨q, rfl⟩ := Int.eq_ofNat_of_zero_le (show 0 ≤ p by omega)
  obtain ⟨m, rfl⟩ := Int.eq_ofNat_of_zero_le hn0
  simp (disch := omega) [vn, hcan, hw, wrap_small]
  refine .up m (fun i s => s.env 0 = v ∧ s.env 1 = .int .i64 q ∧ s.env 8 = .int .u64 (valZ ((l.drop (q + (m - i))).take i)) ∧ s.env 9 = .int .i64 ((m : Int) - 1 - i) ∧ s.toks = [] ∧ s.objs = objs ∧ s.low = objs.length) (by simp [valZ]) ?_
  rintro i s hi ⟨h0, h1, h8, h9, ht, ho, hlo⟩
  rcases Nat.lt_or_ge i m with h | h
  · have e : (l.drop (q + (m - (i + 1)))).take (i + 1) = nth l (q + (m - (i + 1))) :: (l.drop (q + (m - i))).take i := by
      rw [drop_nth (by omega), List.take_succ_cons, show q + (m - (i + 1)) + 1 = q + (m - i) by omega]
    have hx : ((m : Int) - 1 - i) = ((m - (i + 1) : Nat) : Int) := by omega
    rw [hx] at h9
    have hx2 : ((m - (i + 1) : Nat) : Int) - 1 = (m : Int) - 1 - ((i : Int) + 1) := by omega
    have hx3 : q + (m - (i + 1)) < l.length := by omega
    have w1 : IntKind.i64.wrap ((q : Int) + ((m - (i + 1) : Nat) : Int)) = ((q + (m - (i + 1)) : Nat) : Int) := by rw [wrap_small (by omega) (by omega)]; omega
    have w2 : IntKind.i64.wrap (((m - (i + 1) : Nat) : Int) - 1) = (m : Int) - 1 - ((i : Int) + 1) := by rw [wrap_small (by omega) (by omega)]; omega
    obtain ⟨y, hy⟩ : ∃ y, y = m - (i + 1) := ⟨_, rfl⟩
    rw [← hy] at h9 e w1 w2 hx3
    have hi2 : i + 1 ≤ m := h
    simp (disch := omega) [h0, h1, h8, h9, ht, ho, hlo, vi, hx3, ints_nth, convV, w1, w2, h]
    rw [← hy, e]
    simp [valZ, vstep]
  · obtain rfl : i = m := by omega
    simp (disch := omega) [h0, h1, h8, h9, ht, ho, hlo])

/-! the sum's register, plain -/
def stepZ (s : Int) : Int := if Go.bits .and .u32 s 1 = 0 then s.fdiv 2 else Go.bits .xor .u32 (s.fdiv 2) 2197175160
def feedZ (s c : Int) : Int := stepZ (stepZ (stepZ (stepZ (stepZ (stepZ (stepZ (stepZ (Go.bits .xor .u32 s (IntKind.u32.wrap c)))))))))
def extZ (s : Int) : List Int → Int | [] => s | c :: l => extZ (feedZ s c) l
def notZ (s : Int) : Int := Go.bits .xor .u32 IntKind.u32.max s
def extendZ (s : Int) (l : List Int) : Int := notZ (extZ (notZ s) l)
theorem extZ_snoc (s : Int) (l : List Int) (c : Int) : extZ s (l ++ [c]) = feedZ (extZ s l) c := by
  induction l generalizing s with
  | nil => rfl
  | cons a l ih => simp only [List.cons_append, extZ, ih]
noncomputable def k_step : Ab.Spec := con1 (ofInt .u32) fun s _ => some (.int .u32 (stepZ s), none)
noncomputable def T_step : CallF := withF T_Value 42 k_step
theorem T_step_ok : CallOk Try.prog T_step := con_of (A := annOf [] [] [] false []) fit T_Value_ok (fn := Try.f42) (by kernel_rfl) (by kernel_rfl) (by
  intro args objs r h0
  obtain ⟨v, s, rfl, hs, hR⟩ := con1_inv h0
  obtain rfl := ofInt_inv hs
  cases hR
  refine .go _ rfl rfl ?_
  by_cases hc : Go.bits .and .u32 s 1 = 0
  · simp [hc, stepZ]
  · have hb : (Go.bits .and .u32 s 1 != 0) = true := by simpa using hc
    simp [hc, hb, stepZ])
noncomputable def k_feed : Ab.Spec := con2 (ofInt .u32) (ofInt .u8) fun s c _ => some (.int .u32 (feedZ s c), none)
noncomputable def T_feed : CallF := withF T_step 41 k_feed
theorem T_feed_ok : CallOk Try.prog T_feed := con_of (A := annOf [] [] [] false []) fit T_step_ok (fn := Try.f41) (by kernel_rfl) (by kernel_rfl) (by
  intro args objs r h0
  obtain ⟨v, w, s, c, rfl, hs, hc, hR⟩ := con2_inv h0
  obtain rfl := ofInt_inv hs
  obtain rfl := ofInt_inv hc
  cases hR
  exact .seg 40 [(4, .int .u32 (feedZ s c))] (toks' := []) (objs' := objs) (low' := objs.length) rfl (.inr rfl) (by kernel_rfl) (by intro e'; simp [upds, upd, finish, Try.f41]))
noncomputable def k_Extend : Ab.Spec := con2 (ofInt .u32) (ofInts .u8) fun s l _ => bnd l.length 140737488355328 (some (.int .u32 (extendZ s l), none))
noncomputable def T_Extend : CallF := withF T_feed 40 k_Extend
theorem T_Extend_ok : CallOk Try.prog T_Extend := con_of (A := annOf [] [] [] false []) fit T_feed_ok (fn := Try.f40) (by kernel_rfl) (by kernel_rfl) (by
  intro args objs r h0
  have c_feed : ∀ a o, T_feed 41 a o = k_feed a o := fun _ _ => rfl
  obtain ⟨v, w, s, l, rfl, hs, hl, hR⟩ := con2_inv h0
  obtain rfl := ofInt_inv hs
  obtain ⟨hb, hR⟩ := bnd_inv hR
  cases hR
  obtain ⟨wd, wn, wi, -⟩ := bs hl
  refine .go _ rfl rfl ?_
  simp [wn]
  refine .up l.length (fun i s' => s'.env 5 = .int .u32 (extZ (notZ s) (l.take i)) ∧ s'.env 10 = w ∧ s'.env 11 = .int .i64 l.length ∧ s'.env 12 = .int .i64 i ∧ s'.toks = [] ∧ s'.objs = objs ∧ s'.low = objs.length) (by simp [extZ, notZ]) ?_
  rintro i s' hi ⟨h5, h10, h11, h12, ht, ho, hlo⟩
  rcases Nat.lt_or_ge i l.length with h | h
  · have e := take_nth h
    simp (disch := omega) [h5, h10, h11, h12, ht, ho, hlo, wi, h, c_feed, k_feed, ints_nth, e, extZ_snoc, wrap_small]
  · obtain rfl : i = l.length := by omega
    simp [h5, h10, h11, h12, ht, ho, hlo, extendZ, notZ])
/-! the sum of parts -/
def sumZ (ls : List (List Int)) : Int := ls.foldl extendZ 0
noncomputable def k_Sum : Ab.Spec := con1 (ofList (ofInts .u8)) fun ls _ => bnd ls.length 140737488355328 (if ∀ l ∈ ls, l.length < 140737488355328 then some (.int .u32 (sumZ ls), none) else none)
noncomputable def T_Sum : CallF := withF T_Extend 39 k_Sum
theorem T_Sum_ok : CallOk Try.prog T_Sum := con_of (A := annOf [] [] [] false []) fit T_Extend_ok (fn := Try.f39) (by kernel_rfl) (by kernel_rfl) (by
  intro args objs r h0
  have c_Extend : ∀ a o, T_Extend 40 a o = k_Extend a o := fun _ _ => rfl
  obtain ⟨v, ls, rfl, hs, hR⟩ := con1_inv h0
  obtain ⟨hl, hR⟩ := bnd_inv hR
  split at hR
  case isFalse => cases hR
  rename_i hls
  cases hR
  obtain ⟨cs, hv, hn, hc⟩ := ofList_inv hs
  have vn := hv.size u47
  have vi := hv.idx u47 z22
  refine .go _ rfl rfl ?_
  simp [vn]
  refine .up ls.length (fun i s => s.env 3 = .int .u32 (sumZ (ls.take i)) ∧ s.env 6 = v ∧ s.env 7 = .int .i64 ls.length ∧ s.env 8 = .int .i64 i ∧ s.toks = [] ∧ s.objs = objs ∧ s.low = objs.length) (by simp [sumZ]) ?_
  rintro i s hi ⟨h3, h6, h7, h8, ht, ho, hlo⟩
  rcases Nat.lt_or_ge i ls.length with h | h
  · have e := take_nth h
    obtain ⟨c, hc1, hc3, hc2⟩ := hc i h
    obtain ⟨cd, -⟩ := bs hc2
    have hx := hls _ (nth_mem h)
    have e2 : sumZ (ls.take (i + 1)) = extendZ (sumZ (ls.take i)) (nth ls i) := by rw [e, sumZ, List.foldl_append]; rfl
    simp (disch := omega) [h3, h6, h7, h8, ht, ho, hlo, vi, h, hc1, hc3, cd, c_Extend, k_Extend, hc2, e2, wrap_small, Nat.mul_one]
  · obtain rfl : i = ls.length := by omega
    simp [h3, h6, h7, h8, ht, ho, hlo])
def tailZ (s : Int) : List Int := [IntKind.u8.wrap s, IntKind.u8.wrap (s.fdiv 256), IntKind.u8.wrap (s.fdiv 65536), IntKind.u8.wrap (s.fdiv 16777216)]
noncomputable def k_tail : Ab.Spec := con1 (ofInt .u32) fun s _ => some (.agg (ints .u8 (tailZ s)), none)
noncomputable def T_tail : CallF := withF T_Sum 38 k_tail
theorem T_tail_ok : CallOk Try.prog T_tail := con_of (A := annOf [] [] [] false []) fit T_Sum_ok (fn := Try.f38) (by kernel_rfl) (by kernel_rfl) (by
  intro args objs r h0
  obtain ⟨v, s, rfl, hs, hR⟩ := con1_inv h0
  obtain rfl := ofInt_inv hs
  cases hR
  refine .go _ rfl rfl ?_
  simp [convV, fillV, setCells, getObj_last, tailZ, ints])

end Go.Proofs.Ytmoegiibdaomlaa.B

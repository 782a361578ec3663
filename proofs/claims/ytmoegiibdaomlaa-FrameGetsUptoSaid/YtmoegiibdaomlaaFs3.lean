import Derived.Test.YtmoegiibdaomlaaFs2
set_option linter.unusedSimpArgs false
set_option linter.unusedVariables false
set_option linter.unusedSectionVars false
set_option maxRecDepth 20000
set_option maxHeartbeats 1000000
namespace Go.Proofs.Ytmoegiibdaomlaa.B
open Go Go.Ab
/-! rows of frames that come in -/
theorem of_get {α : Type} {l : List α} {i : Nat} {a : α} (h : l[i]? = some a) : ∀ hh : i < l.length, l[i]'hh = a := fun hh => by rw [List.getElem?_eq_getElem hh] at h; exact Option.some.inj h
def frW (r : Int × V) : List V := [.int .i64 r.1, r.2]
def ofFrW : List V → Option (Int × V)
  | [.int .i64 a, v] => match ofInts .u8 v with | some l => if l.length < 140737488355328 then some (a, v) else none | none => none
  | _ => none
theorem frW_len (r : Int × V) : (frW r).length = 2 := rfl
theorem ofFrW_inv (x : List V) (r : Int × V) (h : ofFrW x = some r) : x = frW r := by
  unfold ofFrW at h
  split at h
  · split at h
    · split at h
      · cases h; rfl
      · cases h
    · cases h
  · cases h
def valW (r : Int × V) : Int × List Int := (r.1, (ofInts .u8 r.2).getD [])
def ofFrs : V → Option (List (Int × V)) := ofRecL ofFrW 2
def FrOk (F : List (Int × V)) : Prop := ∀ r ∈ F, ofInts .u8 r.2 = some (valW r).2 ∧ (valW r).2.length < 140737488355328
theorem ofFrW_ok {x : List V} {r : Int × V} (h : ofFrW x = some r) : ofInts .u8 r.2 = some (valW r).2 ∧ (valW r).2.length < 140737488355328 := by
  unfold ofFrW at h
  split at h
  · split at h
    · rename_i l hl
      split at h
      · rename_i hh
        cases h
        simp only [valW, hl, Option.getD_some]
        exact ⟨trivial, hh⟩
      · cases h
    · cases h
  · cases h
theorem ofRecs_mem {d : List V → Option (Int × V)} {P : Int × V → Prop} (hd : ∀ x a, d x = some a → P a) : ∀ (len : Nat) (cs : List V) (l : List (Int × V)), ofRecs d 2 len cs = some l → ∀ a ∈ l, P a := by
  intro len
  induction len with
  | zero =>
    intro cs l h a ha
    unfold ofRecs at h
    split at h
    · cases h; simp at ha
    · cases h
  | succ len ih =>
    intro cs l h a ha
    unfold ofRecs at h
    obtain ⟨x, hx, h⟩ := Option.bind_eq_some_iff.1 h
    obtain ⟨m, hm, h⟩ := Option.map_eq_some_iff.1 h
    subst h
    rcases List.mem_cons.1 ha with q | q
    · rw [q]; exact hd _ _ hx
    · exact ih _ _ hm a q
theorem ofFrs_ok {v : V} {l : List (Int × V)} (h : ofFrs v = some l) : FrOk l := by
  unfold ofFrs ofRecL at h
  split at h
  · cases h; intro r hr; simp at hr
  · exact ofRecs_mem (fun x a => ofFrW_ok) _ _ _ h
  · cases h
theorem fs {v : V} {l : List (Int × V)} (h : ofFrs v = some l) : demote v = v ∧ lenV Try.prog 40 v = some (.int .i64 l.length) ∧ (∀ k i, 0 ≤ i → i < (l.length : Int) → indexV Try.prog 40 v (.int k i) = some (.fptr (flatV frW l) (i.toNat * 2))) ∧ Sl v (flatV frW l) l.length := by
  have w := ofRecL_inv frW_len ofFrW_inv h
  exact ⟨w.dem, w.size u40, fun k i h0 h1 => w.idx u40 z35 k i h0 h1, w⟩
noncomputable def k_Alike : Ab.Spec := con2 ofFrs ofFrs fun a b _ => bnd a.length 140737488355328 (if a.map valW = b.map valW then some (.bool true, none) else none)
noncomputable def T_Alike : CallF := withF T_Scan 21 k_Alike
theorem T_Alike_ok : CallOk Try.prog T_Alike := con_of (A := annOf [] [] [] false []) fit T_Scan_ok (fn := Try.f21) (by kernel_rfl) (by kernel_rfl) (by
  intro args objs r h0
  have c_Same : ∀ a o, T_Scan 18 a o = k_Same a o := fun _ _ => rfl
  obtain ⟨v, w, a, b, rfl, ha, hb, hR⟩ := con2_inv h0
  obtain ⟨hl, hR⟩ := bnd_inv hR
  split at hR
  case isFalse => cases hR
  rename_i heq
  cases hR
  obtain ⟨vd, vn, vi, -⟩ := fs ha
  obtain ⟨wd, wn, wi, -⟩ := fs hb
  have hn : a.length = b.length := by have := congrArg List.length heq; simpa using this
  have oa := ofFrs_ok ha
  have ob := ofFrs_ok hb
  refine .go _ rfl rfl ?_
  simp [vn, wn, hn]
  refine .up a.length (fun i s => s.env 0 = v ∧ s.env 1 = w ∧ s.env 5 = .int .i64 i ∧ s.toks = [] ∧ s.objs = objs ∧ s.low = objs.length) (by simp) ?_
  rintro i s hi ⟨h0, h1, h5, ht, ho, hlo⟩
  rcases Nat.lt_or_ge i a.length with h | h
  · have hv : valW (nth a i) = valW (nth b i) := by rw [← nth_map (g := valW) h, ← nth_map (g := valW) (show i < b.length by omega), heq]
    have fa := flatV_get frW_len (l := a) (i := i) (j := 0) h (by omega)
    have fb := flatV_get frW_len (l := b) (i := i) (j := 0) (by omega) (by omega)
    have ga := flatV_get frW_len (l := a) (i := i) (j := 1) h (by omega)
    have gb := flatV_get frW_len (l := b) (i := i) (j := 1) (by omega) (by omega)
    have qa := oa _ (nth_mem h)
    have qb := ob _ (nth_mem (l := b) (i := i) (by omega))
    have hk : (nth a i).1 = (nth b i).1 := by have q := congrArg Prod.fst hv; exact q
    have hvb : (valW (nth a i)).2 = (valW (nth b i)).2 := congrArg Prod.snd hv
    obtain ⟨x, hx⟩ : ∃ x, x = nth a i := ⟨_, rfl⟩
    obtain ⟨y, hy⟩ : ∃ y, y = nth b i := ⟨_, rfl⟩
    rw [← hx] at fa ga qa hk hvb
    rw [← hy] at fb gb qb hk hvb
    have fa1 : (flatV frW a)[i * 2]? = some (.int .i64 x.1) := fa
    have fb1 : (flatV frW b)[i * 2]? = some (.int .i64 y.1) := fb
    have ga1 : (flatV frW a)[i * 2 + 1]? = some x.2 := ga
    have gb1 : (flatV frW b)[i * 2 + 1]? = some y.2 := gb
    have fa2 := of_get fa1
    have fb2 := of_get fb1
    have ga2 := of_get ga1
    have gb2 := of_get gb1
    obtain ⟨xd, -⟩ := bs qa.1
    obtain ⟨yd, -⟩ := bs qb.1
    have e1 := vi .i64 i (by omega) (by omega)
    have e2 := wi .i64 i (by omega) (by omega)
    rw [Int.toNat_natCast] at e1 e2
    have hkb : (x.1 != y.1) = false := by simpa using hk
    have hq1 := qa.1
    have hq2 := qb.1
    rw [← hvb] at hq2
    simp -implicitDefEqProofs (disch := omega) [h0, h1, h5, ht, ho, hlo, vn, wn, e1, e2, fa1, fb1, ga1, gb1, fa2, fb2, ga2, gb2, xd, yd, hkb, hn, c_Same, k_Same, hq1, hq2, wrap_small]
    omega
  · have hnl : ¬ i < b.length := by omega
    have hnl2 : ¬ i < a.length := by omega
    simp [h0, h1, h5, ht, ho, hlo, vn, wn, hnl, hnl2])

end Go.Proofs.Ytmoegiibdaomlaa.B

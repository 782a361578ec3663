import Derived.Test.YtmoegiibdaomlaaFr9
import Derived.Test.YtmoegiibdaomlaaAb24
set_option linter.unusedSimpArgs false
set_option linter.unusedVariables false
set_option linter.unusedSectionVars false
set_option maxRecDepth 20000
set_option maxHeartbeats 1000000
namespace Go.Proofs.Ytmoegiibdaomlaa.B
open Go Go.Ab
/-! frames in a row -/
def frV (r : Int × List Int) : List V := [.int .i64 r.1, .lst .frozen (ints .u8 r.2) r.2.length]
theorem frV_len (r : Int × List Int) : (frV r).length = 2 := rfl
theorem frs_norefs (l : List (Int × List Int)) (b : Nat) : norefs b (flatV frV l) = true := norefs_iff.2 fun v hv => by
  obtain ⟨r, _, hr⟩ := List.mem_flatMap.1 hv
  simp only [frV, List.mem_cons, List.not_mem_nil, or_false] at hr
  rcases hr with rfl | rfl
  · rfl
  · simp
def scZ (l : List Int) : Nat → Int → List (Int × List Int) × Int × Int
  | 0, a => ([], a, 0)
  | n + 1, a => if a < l.length then (if (getZ l a).err ≠ 0 then ([], a, (getZ l a).err) else (((getZ l a).kind, (getZ l a).body.getD []) :: (scZ l n (getZ l a).next).1, (scZ l n (getZ l a).next).2)) else ([], a, 0)
theorem scZ_end {l : List Int} {a : Int} (h : ¬ a < l.length) : ∀ n, scZ l n a = ([], a, 0)
  | 0 => rfl
  | n + 1 => by rw [scZ, if_neg h]
theorem scZ_bad {l : List Int} {a : Int} (h : a < l.length) (he : (getZ l a).err ≠ 0) (n : Nat) : scZ l (n + 1) a = ([], a, (getZ l a).err) := by rw [scZ, if_pos h, if_pos he]
theorem scZ_ok {l : List Int} {a x k : Int} {b : List Int} (h : a < l.length) (hg : getZ l a = ⟨k, some b, x, 0⟩) (n : Nat) : scZ l (n + 1) a = ((k, b) :: (scZ l n x).1, (scZ l n x).2) := by rw [scZ, if_pos h, hg]; rfl
theorem get_ok {l : List Int} {a : Int} (hb : B8 l) (he : (getZ l a).err = 0) : ∃ k b, getZ l a = ⟨k, some b, a + ((b.length : Int) + 13), 0⟩ ∧ putErr k b = 0 ∧ 0 ≤ a ∧ a + ((b.length : Int) + 13) ≤ l.length := by
  unfold getZ at he ⊢
  by_cases h : a < 0 ∨ a > l.length
  · rw [if_pos h] at he; cases he
  rw [if_neg h] at he ⊢
  have hd : B8 (l.drop a.toNat) := fun c hc => hb c (List.mem_of_mem_drop hc)
  obtain ⟨b, b1, b2, b3, b4, b5, b6, b7⟩ := rest_only hd he
  rw [List.length_drop] at b5
  refine ⟨(restZ (l.drop a.toNat) a).kind, b, ?_, b3, by omega, by omega⟩
  rw [← b6] at b4
  have : restZ (l.drop a.toNat) a = ⟨(restZ (l.drop a.toNat) a).kind, (restZ (l.drop a.toNat) a).body, (restZ (l.drop a.toNat) a).next, (restZ (l.drop a.toNat) a).err⟩ := rfl
  rw [this, b1, b4, he]
  simp
def scanV (fs : List (Int × List Int)) : V := if fs = [] then .nils else .lst (.fresh 2 false) (flatV frV fs) fs.length
theorem flit1 (k : Int) (b : V) (h : isDef b = true) (hc : cellsOf b = [b]) : listV Try.prog 40 1 [(0, .agg [.int .i64 k, b])] = some ([.int .i64 k, b], 2) := by simp [listV, fillV, zeros, setCells]
theorem flit0 : listV Try.prog 40 0 [] = some ([], 2) := by simp [listV, fillV, zeros]
noncomputable def k_Scan : Ab.Spec := con1 (ofInts .u8) fun l _ => bnd l.length 50000000000000 (if b8 l = true then some (.tup [scanV (scZ l l.length 0).1, .int .i64 (scZ l l.length 0).2.1, .int .i64 (scZ l l.length 0).2.2], none) else none)
noncomputable def T_Scan : CallF := withF T_FrameBack 19 k_Scan
theorem T_Scan_ok : CallOk Try.prog T_Scan := con_of (A := annOf [] [] [] false []) fit T_FrameBack_ok (fn := Try.f19) (by kernel_rfl) (by kernel_rfl) (by
  intro args objs r h0
  have c_fGet : ∀ a o, T_FrameBack 16 a o = k_fGet a o := fun _ _ => rfl
  obtain ⟨v, l, rfl, ha, hR⟩ := con1_inv h0
  obtain ⟨hl, hR⟩ := bnd_inv hR
  split at hR
  case isFalse => cases hR
  rename_i hb8
  cases hR
  have hB : B8 l := b8_iff.1 hb8
  obtain ⟨vd, vn, vi, -⟩ := bs ha
  obtain ⟨X, hX⟩ : ∃ X, X = scZ l l.length 0 := ⟨_, rfl⟩
  rw [← hX]
  refine .go _ rfl rfl ?_
  simp
  refine .up l.length (fun i s => s.env 0 = v ∧ s.low = objs.length ∧ objs.length ≤ s.objs.length ∧ ∃ (acc : List (Int × List Int)) (a : Int), s.env 6 = .int .i64 a ∧ (i : Int) ≤ a ∧ a ≤ l.length ∧ (acc.length : Int) * 13 ≤ a ∧ X = (acc ++ (scZ l (l.length - i) a).1, (scZ l (l.length - i) a).2) ∧ (acc = [] ∧ s.env 5 = .nils ∧ s.toks = [] ∨ acc ≠ [] ∧ s.env 5 = .lst (.tok 0 2) (flatV frV acc) acc.length ∧ s.toks = [acc.length * 2])) (by simpa using hX) ?_
  rintro i s hi ⟨g0, hlo, hol, acc, a, g6, hia, hal, h13, hXa, h5⟩
  obtain ⟨O, hO⟩ : ∃ O, O = s.objs := ⟨_, rfl⟩
  have ho := hO.symm
  rw [← hO] at hol
  have hif : (if O.length < objs.length then O.length else objs.length) = objs.length := if_neg (by omega)
  have hflen := flatV_len frV_len acc
  by_cases hlt : a < (l.length : Int)
  · have hlt' : i < l.length := by omega
    obtain ⟨n, hn⟩ : ∃ n, l.length - i = n + 1 := ⟨l.length - i - 1, by omega⟩
    rw [hn] at hXa
    by_cases he : (getZ l a).err ≠ 0
    · rw [scZ_bad hlt he] at hXa
      obtain ⟨e, hge, he0⟩ := get_bad he
      rw [hge, bad_err] at hXa
      have he' : (e != 0) = true := by simpa using he0
      simp only [List.append_nil] at hXa
      rcases h5 with ⟨rfl, g5, ht⟩ | ⟨hne, g5, ht⟩
      · have hs : scanV [] = .nils := rfl
        simp -implicitDefEqProofs (disch := omega) [g0, g6, g5, ht, hlo, ho, vn, vd, ha, hlt, c_fGet, k_fGet, hb8, hge, frameV_bad, bad_next, bad_err, setCells, getObj_last, set_last, hif, he', hXa, hs]
      · have hs : scanV acc = .lst (.fresh 2 false) (flatV frV acc) acc.length := if_neg hne
        have hnr := frs_norefs acc objs.length
        simp -implicitDefEqProofs (disch := omega) [g0, g6, g5, ht, hlo, ho, vn, vd, ha, hlt, c_fGet, k_fGet, hb8, hge, frameV_bad, bad_next, bad_err, setCells, getObj_last, set_last, hif, he', hXa, hs, hnr, hflen]
    · obtain ⟨k, b, hge, hpe, h0a, hnx⟩ := get_ok hB (Decidable.byContradiction he)
      rw [scZ_ok hlt hge] at hXa
      obtain ⟨x, hx⟩ : ∃ x, x = a + ((b.length : Int) + 13) := ⟨_, rfl⟩
      rw [← hx] at hge hXa hnx
      have hfv : frameV ⟨k, some b, x, 0⟩ = .agg [.int .i64 k, .lst .frozen (ints .u8 b) b.length] := rfl
      have hX2 : X = ((acc ++ [(k, b)]) ++ (scZ l (l.length - (i + 1)) x).1, (scZ l (l.length - (i + 1)) x).2) := by
        rw [hXa, show l.length - (i + 1) = n by omega]; simp
      have fl1 := flit1 k (.lst .frozen (ints .u8 b) b.length) rfl rfl
      have fs1 : flatV frV acc ++ [.int .i64 k, .lst .frozen (ints .u8 b) b.length] = flatV frV (acc ++ [(k, b)]) := flatV_snoc (f := frV) (a := (k, b))
      rcases h5 with ⟨rfl, g5, ht⟩ | ⟨hne, g5, ht⟩
      · simp -implicitDefEqProofs (disch := omega) [g0, g6, g5, ht, hlo, ho, vn, vd, ha, hlt, c_fGet, k_fGet, hb8, hge, hfv, setCells, getObj_last, set_last, hif, fl1]
        exact ⟨hlt', by omega, by omega, hnx, [(k, b)], by simp; omega, hX2, by simp, ⟨rfl, rfl⟩, rfl⟩
      · simp -implicitDefEqProofs (disch := omega) [g0, g6, g5, ht, hlo, ho, vn, vd, ha, hlt, c_fGet, k_fGet, hb8, hge, hfv, setCells, getObj_last, set_last, hif, fl1, fs1, hflen]
        exact ⟨hlt', by omega, by omega, hnx, acc ++ [(k, b)], by simp; omega, hX2, by simp, ⟨rfl, by simp⟩, by simp; omega⟩
  · rw [scZ_end hlt] at hXa
    simp only [List.append_nil] at hXa
    rcases h5 with ⟨rfl, g5, ht⟩ | ⟨hne, g5, ht⟩
    · have hs : scanV [] = .nils := rfl
      simp -implicitDefEqProofs (disch := omega) [g0, g6, g5, ht, hlo, ho, vn, hlt, hXa, hs]
    · have hs : scanV acc = .lst (.fresh 2 false) (flatV frV acc) acc.length := if_neg hne
      have hnr := frs_norefs acc objs.length
      simp -implicitDefEqProofs (disch := omega) [g0, g6, g5, ht, hlo, ho, vn, hlt, hXa, hs, hnr, hflen])

end Go.Proofs.Ytmoegiibdaomlaa.B

import Derived.Test.YtjjldepikokogaaPx4
set_option linter.unusedSimpArgs false
set_option linter.unusedVariables false
set_option linter.unusedSectionVars false
set_option maxRecDepth 20000
set_option maxHeartbeats 1000000
namespace Go.Proofs.Ytjjldepikokogaa.B
open Go Go.Ab
def cmpB (a b : List Int) : Int := Lib.compareBytes (Lib.bytesOf a) (Lib.bytesOf b)
noncomputable def k_bCompare : Ab.Spec := con2 some some fun v w objs => match ofIntsR .u8 objs v, ofIntsR .u8 objs w with | some a, some b => some (.int .i64 (cmpB a b), none) | _, _ => none
noncomputable def T_bCompare : CallF := withF T_ApartAll 42 k_bCompare
theorem T_bCompare_ok : CallOk Try.prog T_bCompare := con_ext Extern.BytealgCompare.compare T_ApartAll_ok (fn := Try.f42) (by kernel_rfl) (by kernel_rfl) rfl (by kernel_rfl) (by kernel_rfl) (by
  intro args objs r h0
  obtain ⟨v, w, _, _, rfl, hv, hw, hR⟩ := con2_inv h0
  cases hv; cases hw
  split at hR
  case h_2 => cases hR
  rename_i a b ha hb
  cases hR
  refine ⟨rfl, rfl, fun G w1 cargs hs hA => ?_⟩
  obtain ⟨x, y, hxy⟩ : ∃ x y, cargs = #[x, y] := by
    have hl := hA.len
    match cargs, hl with
    | ⟨[x, y]⟩, _ => exact ⟨x, y, rfl⟩
  subst hxy
  obtain ⟨⟨vx, -⟩, ⟨vy, -⟩, -⟩ := hA
  have h1 := read_bytes (P := Try.prog) hs vx ha
  have h2 := read_bytes (P := Try.prog) hs vy hb
  refine ⟨.int .i64 (cmpB a b), ?_, .int⟩
  show Sem.run Try.prog (do pure (goInt (Extern.BytealgCompare.cmp (← Extern.Bytes.bytesOf x) (← Extern.Bytes.bytesOf y)))) w1 = _
  simp only [Sem.run_bind, h1, h2, Sem.run_pure, Result.andThen]
  rw [Lib.cmp_eq]
  rfl)
noncomputable def k_Compare : Ab.Spec := con2 some some fun v w objs => match ofIntsR .u8 objs v, ofIntsR .u8 objs w with | some a, some b => some (.int .i64 (cmpB a b), none) | _, _ => none
noncomputable def T_Compare : CallF := withF T_bCompare 37 k_Compare
theorem T_Compare_ok : CallOk Try.prog T_Compare := con_of (A := annOf [] [] [] false []) fit T_bCompare_ok (fn := Try.f37) (by kernel_rfl) (by kernel_rfl) (by
  intro args objs r h0
  have c_bCompare : ∀ a o, T_bCompare 42 a o = k_bCompare a o := fun _ _ => rfl
  obtain ⟨v, w, _, _, rfl, hv, hw, hR⟩ := con2_inv h0
  cases hv; cases hw
  split at hR
  case h_2 => cases hR
  rename_i a b ha hb
  cases hR
  obtain ⟨_, vd, -⟩ := bsR ha
  obtain ⟨_, wd, -⟩ := bsR hb
  refine .go _ rfl rfl ?_
  simp -implicitDefEqProofs [vd, wd, c_bCompare, k_bCompare, ha, hb])
/-! order of bytes, plain -/
def cmpZ : List Int → List Int → Int
  | [], [] => 0
  | [], _ :: _ => -1
  | _ :: _, [] => 1
  | a :: p, b :: q => if a < b then -1 else if b < a then 1 else cmpZ p q
theorem cmpB_eq : ∀ {a b : List Int}, (∀ c ∈ a, 0 ≤ c ∧ c < 256) → (∀ c ∈ b, 0 ≤ c ∧ c < 256) → cmpB a b = cmpZ a b
  | [], [], _, _ => rfl
  | [], _ :: _, _, _ => rfl
  | _ :: _, [], _, _ => rfl
  | a :: p, b :: q, ha, hb => by
    have h1 := ha a (by simp)
    have h2 := hb b (by simp)
    have ih := cmpB_eq (a := p) (b := q) (fun c hc => ha c (by simp [hc])) (fun c hc => hb c (by simp [hc]))
    have lt : ∀ x y : Int, 0 ≤ x ∧ x < 256 → 0 ≤ y ∧ y < 256 → (UInt8.ofNat x.toNat < UInt8.ofNat y.toNat ↔ x < y) := fun x y hx hy => by
      rw [UInt8.lt_iff_toNat_lt, UInt8.toNat_ofNat', UInt8.toNat_ofNat', Nat.mod_eq_of_lt (by omega), Nat.mod_eq_of_lt (by omega)]
      omega
    show (if UInt8.ofNat a.toNat < UInt8.ofNat b.toNat then (-1 : Int) else if UInt8.ofNat b.toNat < UInt8.ofNat a.toNat then 1 else Lib.compareBytes (Lib.bytesOf p) (Lib.bytesOf q)) = if a < b then -1 else if b < a then 1 else cmpZ p q
    simp only [lt a b h1 h2, lt b a h2 h1]
    rw [show Lib.compareBytes (Lib.bytesOf p) (Lib.bytesOf q) = cmpB p q from rfl, ih]

end Go.Proofs.Ytjjldepikokogaa.B

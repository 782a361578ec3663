import Derived.Test.YtdfcbophcfjakaaAb31
set_option linter.unusedSimpArgs false
set_option linter.unusedVariables false
set_option linter.unusedSectionVars false
/- Strings by their bytes; one more operation: an element by its place. -/
namespace Go.Ab
section
variable {P : Program} {A : Ann} {T : CallF} {f : FuncId} {base : Nat} {ops : Array Oper} {s : St} {d : Option Nat} {ty : TypeId} {ps : String} {af : Array Edge}
def indexP (P : Program) (t : TypeId) (x i : V) : Option V := match P.underlying t, x, i with
  | some .string, .str s, .int _ i => if 0 ≤ i then match s[i.toNat]? with | some b => some (.int .u8 b.toNat) | none => none else none
  | some (.array k e), .agg cs, .int _ i => if 0 ≤ i ∧ i < k then match sizeOf? P e with | some n => (getV P e cs (i.toNat * n)).map demote | none => none else none
  | _, _, _ => none
theorem op_index {t : TypeId} {x i : Operand} : opR P A T f base ops ⟨d, .index t x i, ty, ps, af, none⟩ s = pureR s (indexP P t (opd s.env x) (opd s.env i)) := rfl
end
attribute [simp] op_index
/-! strings -/
def strL (s : ByteArray) : List Int := s.data.toList.map fun b => (b.toNat : Int)
theorem strL_len (s : ByteArray) : (strL s).length = s.size := by unfold strL; rw [List.length_map]; rfl
theorem strL_byte {s : ByteArray} : ∀ c ∈ strL s, 0 ≤ c ∧ c < 256 := by
  intro c hc
  obtain ⟨b, -, rfl⟩ := List.mem_map.1 hc
  have := b.toNat_lt
  omega
theorem strL_inj {a b : ByteArray} (h : strL a = strL b) : a = b := by
  obtain ⟨⟨x⟩⟩ := a
  obtain ⟨⟨y⟩⟩ := b
  have : x = y := by
    have h : x.map (fun c : UInt8 => (c.toNat : Int)) = y.map (fun c : UInt8 => (c.toNat : Int)) := h
    refine List.map_inj_right ?_ |>.1 h
    intro c d hcd
    exact UInt8.toNat_inj.1 (by omega)
  rw [this]
theorem strL_nums {l : List Int} (h : ∀ c ∈ l, 0 ≤ c ∧ c < 256) : strL (strOfNums l) = l := by
  unfold strL
  rw [strOfNums_data, List.map_map]
  conv => rhs; rw [← List.map_id l]
  refine List.map_congr_left fun c hc => ?_
  have := h c hc
  simp only [Function.comp, id, UInt8.toNat_ofNat']
  have h2 : c.toNat % 2 ^ 8 = c.toNat := Nat.mod_eq_of_lt (by omega)
  rw [h2]; omega
theorem nums_strL (s : ByteArray) : strOfNums (strL s) = s := strL_inj (strL_nums strL_byte)
theorem str_at {s : ByteArray} {i : Nat} (h : i < (strL s).length) : ∃ b : UInt8, s[i]? = some b ∧ (b.toNat : Int) = nth (strL s) i := by
  rw [strL_len] at h
  refine ⟨s.data[i]'h, getElem?_pos s i h, ?_⟩
  rw [nth_lt (by rw [strL_len]; exact h)]
  simp [strL]
theorem str_none {s : ByteArray} {i : Nat} (h : (strL s).length ≤ i) : s[i]? = none := by
  rw [strL_len] at h
  exact getElem?_neg s i (by omega)
section
variable {P : Program} {t : TypeId}
theorem str_index (hu : P.underlying t = some .string) {s : ByteArray} (k : IntKind) {i : Int} (h0 : 0 ≤ i) (h1 : i < (strL s).length) : indexP P t (.str s) (.int k i) = some (.int .u8 (nth (strL s) i.toNat)) := by
  obtain ⟨b, b1, b2⟩ := str_at (s := s) (i := i.toNat) (by omega)
  simp [indexP, hu, h0, b1, b2]
theorem strL_extract (s : ByteArray) (a b : Nat) : strL (s.extract a b) = ((strL s).take b).drop a := by
  unfold strL
  rw [ByteArray.data_extract, Array.toList_extract, List.extract_eq_take_drop, List.map_take, List.map_drop, List.drop_take]
theorem str_cut (hu : P.underlying t = some .string) {s : ByteArray} (objs : List AO) (lo hi : Option V) (a b : Nat) (ha : boundV lo 0 = some a) (hb : boundV hi (strL s).length = some b) (hab : a ≤ b) (hl : b ≤ (strL s).length) :
    cutV P t objs (.str s) lo hi none = some (.str (strOfNums (((strL s).take b).drop a))) := by
  have e : strOfNums (((strL s).take b).drop a) = s.extract a b := by rw [← strL_extract, nums_strL]
  rw [strL_len] at hb hl
  rw [e]
  simp [-boundV, cutV, sliceV, hu, ha, hb, hab, hl]
theorem str_len (hu : P.underlying t = some .string) (s : ByteArray) : lenV P t (.str s) = some (.int .i64 (strL s).length) := by simp [lenV, hu, strL_len]
end
theorem str_beq (a b : ByteArray) : (a.toList == b.toList) = decide (strL a = strL b) := by
  rw [ByteArray.toList_eq, ByteArray.toList_eq]
  by_cases h : strL a = strL b
  · rw [strL_inj h]; simp
  · have : a.data.toList ≠ b.data.toList := fun q => h (by unfold strL; rw [q])
    rw [decide_eq_false h, beq_eq_false_iff_ne]; exact this
theorem str_isEmpty (a : ByteArray) : a.toList.isEmpty = decide (strL a = []) := by
  rw [ByteArray.toList_eq]
  unfold strL
  cases a.data.toList <;> simp
theorem str_key (a b : ByteArray) : (a == b) = decide (strL a = strL b) := by
  by_cases h : strL a = strL b
  · rw [strL_inj h]; simp [(MapKept.bytes_beq b b).2]
  · simp only [h, decide_false]
    rw [Bool.eq_false_iff]
    intro q
    exact h (by rw [(MapKept.bytes_beq a b).1 q])
theorem strL_nil {s : ByteArray} : strL s = [] ↔ s.size = 0 := by
  rw [← strL_len]; exact List.length_eq_zero_iff.symm
def ofStr : V → Option ByteArray | .str s => some s | _ => none
theorem ofStr_inv {v : V} {s : ByteArray} (h : ofStr v = some s) : v = .str s := by cases v <;> simp_all [ofStr]
@[simp] theorem ofStr_str {s : ByteArray} : ofStr (.str s) = some s := rfl
/-! maps by their entries -/
theorem getMap_end {objs l : List AO} : getMap (objs ++ l) objs.length = getMap l 0 := by unfold getMap; rw [List.getElem?_append_right (Nat.le_refl _), Nat.sub_self]
theorem getMap_add {objs l : List AO} {k : Nat} : getMap (objs ++ l) (objs.length + k) = getMap l k := by unfold getMap; rw [List.getElem?_append_right (Nat.le_add_right _ _), Nat.add_sub_cancel_left]
theorem getMap_zero {es : List (V × V)} {l : List AO} : getMap (.map es :: l) 0 = some es := rfl
theorem getMap_succ {a : AO} {k : Nat} {l : List AO} : getMap (a :: l) (k + 1) = getMap l k := by simp [getMap]
attribute [simp] getMap_end getMap_add getMap_zero getMap_succ
end Go.Ab

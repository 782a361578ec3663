import Derived.Test.YtdfcbophcfjakaaAb21
set_option linter.unusedSimpArgs false
set_option linter.unusedVariables false
set_option linter.unusedSectionVars false
/- Types' facts; the rules that simp runs code by. -/
namespace Go.Ab
section
variable {P : Program} {t : TypeId} {cs : List V} {off n : Nat}
theorem getV_flat (hk : known P t = true) (hg : isAgg P t = false) : getV P t cs off = cs[off]? := by unfold getV; rw [hk, hg]; rfl
theorem getV_agg (hk : known P t = true) (hg : isAgg P t = true) (hi : sizeOf? P t = some n) : getV P t cs off = if off + n ≤ cs.length then some (.agg ((cs.drop off).take n)) else none := by
  unfold getV; rw [hk, hg]
  unfold sizeOf? at hi
  cases h : P.info? t with
  | none => rw [h] at hi; cases hi
  | some i => rw [h] at hi; cases hi; rfl
theorem fits_of {sz b : Nat} (h : (P.info? t).map (fun i => (i.size, i.bytes)) = some (sz, b)) (h0 : 0 < sz) (h1 : 0 < b) (h2 : n * b < 140737488355328) : fits P t n = true := by
  unfold fits
  cases hi : P.info? t with
  | none => rw [hi] at h; cases h
  | some i => rw [hi] at h; cases h; simp only [decide_eq_true_eq]; exact ⟨h0, h1, h2⟩
end
section
variable {P : Program} {t : TypeId} {x i : V}
@[simp 100] theorem lenV_eq : lenV P t x = match P.underlying t, x with
  | some .string, .str s => some (.int .i64 s.size)
  | some (.slice _), .lst _ _ len => some (.int .i64 len)
  | some (.slice _), .nils => some (.int .i64 0)
  | some (.slice _), .ref _ _ _ len _ => some (.int .i64 len)
  | some (.array n _), _ => some (.int .i64 n)
  | some (.map _ _), .nilm => some (.int .i64 0)
  | _, _ => none := rfl
@[simp 100] theorem indexV_eq : indexV P t x i = match i with
  | .int _ i => match P.underlying t, x with
    | some (.slice e), .lst _ cs len => if 0 ≤ i ∧ i < len then (sizeOf? P e).map fun n => .fptr cs (i.toNat * n) else none
    | some (.slice e), .ref id ver off len _ => if 0 ≤ i ∧ i < len then (sizeOf? P e).map fun n => .ptr id ver (off + i.toNat * n) else none
    | some (.array k e), .ptr id ver off => if 0 ≤ i ∧ i < k then (sizeOf? P e).map fun n => .ptr id ver (off + i.toNat * n) else none
    | some (.array k e), .fptr cs off => if 0 ≤ i ∧ i < k then (sizeOf? P e).map fun n => .fptr cs (off + i.toNat * n) else none
    | _, _ => none
  | _ => none := rfl
@[simp 100] theorem cutV_eq {objs : List AO} {lo hi mx : Option V} : cutV P t objs x lo hi mx = match x with
  | .ptr id ver off => sliceA P t (.ptr id ver off) objs lo hi mx
  | v => sliceV P t v lo hi mx := rfl
@[simp 100] theorem srcOf_eq {d : TypeDesc} {objs : List AO} {n : Nat} {y : V} : srcOf d objs n y = match d, y with
  | .slice _, .str _ => none
  | .slice _, y => match rowOf objs n y with | some ys => if ys.all oneCell = true then some ys else none | none => none
  | .string, .str s => rowOf objs n (.str s)
  | _, _ => none := rfl
end
section
variable {P : Program} {t : TypeId} {objs : List AO}
@[simp] theorem loadV_ptr {id ver off : Nat} : loadV P t objs (.ptr id ver off) = match Ab.getObj objs id ver with | some cs => (getV P t cs off).map demote | none => none := rfl
@[simp] theorem loadV_fptr {cs : List V} {off : Nat} : loadV P t objs (.fptr cs off) = (getV P t cs off).map demote := rfl
@[simp] theorem fieldAddr_ptr {id ver off i : Nat} : fieldAddrV P t (.ptr id ver off) i = match P.underlying t with
  | some (.struct fs) => match fs[i]? with
    | some f => match sizeOf? P f.type with
      | some (_ + 1) => some (.ptr id ver (off + f.offset))
      | _ => none
    | none => none
  | _ => none := rfl
@[simp] theorem fieldAddr_fptr {cs : List V} {off i : Nat} : fieldAddrV P t (.fptr cs off) i = match P.underlying t with
  | some (.struct fs) => match fs[i]? with
    | some f => match sizeOf? P f.type with
      | some (_ + 1) => some (.fptr cs (off + f.offset))
      | _ => none
    | none => none
  | _ => none := rfl
end
theorem wrapU8 (n : Int) : IntKind.u8.wrap n = n % 256 := rfl
theorem wrapU16 (n : Int) : IntKind.u16.wrap n = n % 65536 := rfl
theorem wrapU32 (n : Int) : IntKind.u32.wrap n = n % 4294967296 := rfl
theorem wrapU64 (n : Int) : IntKind.u64.wrap n = n % 18446744073709551616 := rfl
theorem wrap_u8 {n : Int} (h0 : 0 ≤ n) (h1 : n < 256) : IntKind.u8.wrap n = n := by rw [wrapU8]; omega
theorem wrap_u16 {n : Int} (h0 : 0 ≤ n) (h1 : n < 65536) : IntKind.u16.wrap n = n := by rw [wrapU16]; omega
theorem wrap_u32 {n : Int} (h0 : 0 ≤ n) (h1 : n < 4294967296) : IntKind.u32.wrap n = n := by rw [wrapU32]; omega
theorem wrap_u64 {n : Int} (h0 : 0 ≤ n) (h1 : n < 18446744073709551616) : IntKind.u64.wrap n = n := by rw [wrapU64]; omega
attribute [simp] IntKind.signed IntKind.bits
@[simp] theorem dec_t {p : Prop} [Decidable p] (h : p) : decide p = true := decide_eq_true h
@[simp] theorem dec_f {p : Prop} [Decidable p] (h : ¬ p) : decide p = false := decide_eq_false h
@[simp] theorem ieq_t {a b : Int} (h : a = b) : (a == b) = true := by simp [h]
@[simp] theorem ieq_f {a b : Int} (h : a ≠ b) : (a == b) = false := by simp [h]
@[simp] theorem ine_t {a b : Int} (h : a ≠ b) : (a != b) = true := by simp [h]
@[simp] theorem ine_f {a b : Int} (h : a = b) : (a != b) = false := by simp [h]
@[simp] theorem entry_zero {a : V} {l : List V} : entryEnv (a :: l) 0 = a := rfl
@[simp] theorem entry_succ {a : V} {l : List V} {n : Nat} : entryEnv (a :: l) (n + 1) = entryEnv l n := by simp [entryEnv]
@[simp] theorem md_ref : (Md.ref != Md.frozen) = true := rfl
@[simp] theorem md_tok : (Md.tok != Md.frozen) = true := rfl
@[simp] theorem md_frozen : (Md.frozen != Md.frozen) = false := rfl
@[simp] theorem toNat_add {a b : Nat} : ((a : Int) + (b : Int)).toNat = a + b := by omega
@[simp] theorem toNat_one {a : Nat} : ((a : Int) + 1).toNat = a + 1 := by omega
attribute [simp] List.getElem?_cons_zero List.getElem?_cons_succ
def ntup (v : V) : Option V := match v with | .tup _ => none | v => some v
@[simp] theorem part_zero {a : V} {l : List V} : partV (.tup (a :: l)) 0 = ntup a := by cases a <;> rfl
@[simp] theorem part_succ {a : V} {l : List V} {n : Nat} : partV (.tup (a :: l)) (n + 1) = partV (.tup l) n := by simp [partV]
@[simp 100] theorem ntup_eq {v : V} : ntup v = match v with | .tup _ => none | v => some v := rfl
@[simp 100] theorem isDef_eq {x : V} : isDef x = match x with | .undef => false | _ => true := by cases x <;> rfl
@[simp 100] theorem cellsOf_eq {x : V} : cellsOf x = match x with | .agg cs => cs | v => [v] := by cases x <;> rfl
@[simp 100] theorem oneCell_eq {x : V} : oneCell x = match x with | .agg _ | .tup _ | .undef => false | _ => true := by cases x <;> rfl
attribute [simp] to_seq to_block to_skip to_ret to_exit to_region ops_nil ops_cons opQ_some to_cond forkT_true forkT_false at_then_norm at_then_ret at_then_exit at_block_norm at_block_ret at_block_exit at_up_norm at_up_ret at_up_exit at_dn_norm at_dn_ret at_dn_exit at_fin_norm at_fin_ret
attribute [simp] op_s2a op_move op_assign op_pick op_bin op_un op_conv op_extract op_check op_fieldAddr op_field op_indexAddr op_len op_load op_slice op_call op_append op_copy op_lit op_make op_alloc op_box op_store op_build op_lookup op_makeMap op_update op_guard guard_tt guard_ff guard_tf guard_ft guard_u slotV_zero slotV_succ
attribute [simp] pureR_some tokR_some actR_some held_tok held_ref held_frozen seeM_tok seeM_ref seeM_frozen doRes_read doRes_full doRes_mut calmR_none calmR_false
attribute [congr] to_congr at_congr ops_congr opQ_congr forkT_congr pureR_congr opR_congr guardR_congr doRes_congr calmR_congr held_congr
attribute [simp] put_get put_none opd_tmp opd_const ofConst ofCell annOf_mode look annOf_keep annOf_mutf annOf_thaw annOf_still thawAll_no isFull isCalm Ann.modes
attribute [simp] demL demI demB demN demA demP demR demS demNp demF demNi demNf demNm demM demFn demIf demU
attribute [simp] ofInt_int ofBool_bool con0_app con1_app con2_app con3_app con4_app ofCellsI_ints ofInts_nil ints_len ints_refs ints_one ints_app ints_snoc ints_take ints_drop
attribute [simp] intBin strBin unV fieldV binV checkV pickV s2aV appT appO copO copyV litP litT litO makeT makeO allocO boxO storeO buildP mapO rowOf bindRes bindAll bind1 FinQ.fin resVals resVal outAll out1 packV Ab.noref norefs boundV sliceV sliceA minmax bnd_pos
end Go.Ab

import Derived.Test.YtdfcbophcfjakaaAb6
set_option linter.unusedSimpArgs false
set_option linter.unusedVariables false
set_option linter.unusedSectionVars false
/- Operations that depend on their operands alone: each does as the evaluator says. -/
namespace Go.Ab
theorem VR.nils_inv {G : Gh} {w : World} {c : Value} (h : VR G w .nils c) : c = .slice none 0 0 := by cases h; rfl
theorem VR.lst_inv {G : Gh} {w : World} {k : LK} {cs : List V} {len : Nat} {c : Value} (h : VR G w (.lst k cs len) c) :
    ∃ (a : Addr) (cap : Nat) (f : Nat → Value), c = .slice (some a) len cap ∧ len ≤ cap ∧ (∀ j, j < cs.length → G.st a.block (a.off + j)) ∧ (∀ j, j < cs.length → w.cell? (a.add j) = some (f j)) ∧ ∀ j (h : j < cs.length), VR G w (cs[j]'h) (f j) := by
  cases h with
  | lst f hl hst hc hv => exact ⟨_, _, f, rfl, hl, hst, hc, hv⟩
theorem VR.fptr_inv {G : Gh} {w : World} {cs : List V} {off : Nat} {c : Value} (h : VR G w (.fptr cs off) c) :
    ∃ (a : Addr) (f : Nat → Value), c = .pointer (some (a.add off)) ∧ (∀ j, j < cs.length → G.st a.block (a.off + j)) ∧ (∀ j, j < cs.length → w.cell? (a.add j) = some (f j)) ∧ ∀ j (h : j < cs.length), VR G w (cs[j]'h) (f j) := by
  cases h with
  | fptr f hst hc hv => exact ⟨_, f, rfl, hst, hc, hv⟩
theorem VR.ptr_inv {G : Gh} {w : World} {id ver off : Nat} {c : Value} (h : VR G w (.ptr id ver off) c) : ∃ b o, G.loc id ver = some (b, o) ∧ c = .pointer (some ⟨b, o + off, none⟩) := by
  cases h with
  | ptr hl => exact ⟨_, _, hl, rfl⟩
theorem VR.ref_inv {G : Gh} {w : World} {id ver off len e : Nat} {c : Value} (h : VR G w (.ref id ver off len e) c) :
    ∃ (b o cap p : Nat) (arr : Array Value) (el : TypeId) (fz : Nat × Nat), c = .slice (some ⟨b, p, none⟩) len cap ∧ G.loc id ver = some (b, o) ∧ len ≤ cap ∧ w.heap[b]? = some (.cells arr el fz) ∧ (0 < cap → p = o + off) ∧ (0 < cap → o + off + cap * e ≤ arr.size) := by
  cases h with
  | ref hloc hl hp hb hs => exact ⟨_, _, _, _, _, _, _, rfl, hloc, hl, hb, hp, hs⟩
theorem VR.fn_inv {G : Gh} {w : World} {f : Fn} {xs ys : List V} {c : Value} (h : VR G w (.fn f xs ys) c) :
    ∃ as bs, c = .func f as bs ∧ as.size = xs.length ∧ bs.size = ys.length ∧ (∀ j (h : j < xs.length), VR G w (xs[j]'h) (as.getD j Go.undef)) ∧ ∀ j (h : j < ys.length), VR G w (ys[j]'h) (bs.getD j Go.undef) := by
  cases h with
  | fn h1 h2 v1 v2 => exact ⟨_, _, rfl, h1, h2, v1, v2⟩
theorem VR.nilm_inv {G : Gh} {w : World} {c : Value} (h : VR G w .nilm c) : c = .map none := by cases h; rfl
theorem add_mk (b o j : Nat) : (⟨b, o, none⟩ : Addr).add j = ⟨b, o + j, none⟩ := by
  unfold Addr.add; split <;> simp_all
theorem add_block (a : Addr) (j : Nat) : (a.add j).block = a.block := by unfold Addr.add; split <;> rfl
theorem add_off (a : Addr) (j : Nat) : (a.add j).off = a.off + j := by unfold Addr.add; split <;> simp_all
theorem zero_run {P : Program} {w : World} {t : TypeId} {z : List V} (h : zeroV P t = some z) : ∃ v i, P.info? t = some i ∧ i.zero = some v ∧ (Go.zeroValue t).run P w = .ok v w ∧ v.cells.size = z.length ∧ z.length = i.size ∧ ∀ (G : Gh) j (h : j < z.length), VR G w (z[j]'h) (v.cells.getD j Go.undef) := by
  unfold zeroV at h
  cases hi : P.info? t with
  | none => rw [hi] at h; cases h
  | some i =>
    rw [hi] at h
    simp only at h
    cases hz : i.zero with
    | none => rw [hz] at h; cases h
    | some v =>
      rw [hz] at h
      simp only at h
      split at h <;> cases h
      rename_i hl
      have hc : ∀ G : Gh, v.cells.size = (cellsOf (ofConst v)).length ∧ ∀ j (h : j < (cellsOf (ofConst v)).length), VR G w ((cellsOf (ofConst v))[j]'h) (v.cells.getD j Go.undef) := by
        intro G
        by_cases hagg : ∃ cs, v = .agg cs
        · obtain ⟨cs, rfl⟩ := hagg
          obtain ⟨as, e, h1, h2⟩ := VR.agg_inv (show VR G w (.agg (cs.toList.map ofCell)) (.agg cs) from ofConst_vr (.agg cs))
          cases e
          exact ⟨h1, h2⟩
        · have e1 : v.cells = #[v] := by cases v <;> first | rfl | exact absurd ⟨_, rfl⟩ hagg
          have e2 : ofConst v = ofCell v := by cases v <;> first | rfl | exact absurd ⟨_, rfl⟩ hagg
          have e3 : cellsOf (ofCell v) = [ofCell v] := by
            have := (ofCell_plain v).2.2
            cases h : ofCell v <;> first | rfl | exact absurd h (this _)
          rw [e1, e2, e3]
          refine ⟨rfl, fun j hj => ?_⟩
          simp only [List.length_singleton] at hj
          obtain rfl : j = 0 := by omega
          exact ofCell_vr v
      exact ⟨v, i, rfl, hz, by simp [Go.zeroValue, typeInfo, hi, hz], (hc ⟨fun _ _ => none, fun _ _ => False⟩).1, hl, fun G => (hc G).2⟩

section
variable {P : Program} {G : Gh} {tl : Nat → Nat → Option (Nat × Nat)} {E : Nat} {toks : List Nat} {objs : List AO} {w : World} {env : Nat → V} {a : Act}
/-- A run of an operation that leaves the world as it is. -/
def Same (P : Program) (G : Gh) (tl : Nat → Nat → Option (Nat × Nat)) (E : Nat) (w : World) (s : Sem Value) (v : V) : Prop := ∃ c, s.run P w = .ok c w ∧ VR G w v c ∧ TokT tl E w v c
theorem Same.flat {s : Sem Value} {v : V} {c : Value} (h : s.run P w = .ok c w) (hv : VR G w v c) (h1 : ∀ k cs len, v ≠ .lst k cs len) (h2 : ∀ vs, v ≠ .tup vs) : Same P G tl E w s v :=
  ⟨c, h, hv, TokT.of (fun k cs len e => absurd e (h1 _ _ _)) h2⟩
theorem index_same {t : TypeId} {x i v : V} {c d : Value} (hx : VR G w x c) (hi : VR G w i d) (h : indexV P t x i = some v) : Same P G tl E w (Instr.indexAt t c d) v := by
  unfold indexV at h
  split at h
  case h_2 => cases h
  rename_i k n
  obtain rfl := hi.int_inv
  split at h
  · rename_i e k cs len hu
    obtain ⟨a, cap, f, rfl, hl, hst, hc, hv⟩ := hx.lst_inv
    split at h
    case isFalse => cases h
    rename_i hn
    cases hs : sizeOf? P e with
    | none => rw [hs] at h; cases h
    | some sz =>
      rw [hs] at h; cases h
      refine Same.flat (c := .pointer (some (a.add (n.toNat * sz)))) ?_ (.fptr f hst hc hv) (by simp) (by simp)
      simp [Instr.indexAt, asIntOf, run_underlying hu, hn, size_run hs]
  · rename_i e id ver off len e' hu
    obtain ⟨b, o, cap, p, arr, el, fz, rfl, hloc, hl, hb, hp, hsz⟩ := hx.ref_inv
    split at h
    case isFalse => cases h
    rename_i hn
    obtain rfl := hp (by omega)
    cases hs : sizeOf? P e with
    | none => rw [hs] at h; cases h
    | some sz =>
      rw [hs] at h; cases h
      refine Same.flat (c := .pointer (some ⟨b, o + (off + n.toNat * sz), none⟩)) ?_ (.ptr hloc) (by simp) (by simp)
      simp [Instr.indexAt, asIntOf, run_underlying hu, hn, size_run hs, add_mk, Nat.add_assoc]
  · rename_i len e id ver off hu
    obtain ⟨b, o, hloc, rfl⟩ := hx.ptr_inv
    split at h
    case isFalse => cases h
    rename_i hn
    cases hs : sizeOf? P e with
    | none => rw [hs] at h; cases h
    | some sz =>
      rw [hs] at h; cases h
      refine Same.flat (c := .pointer (some ⟨b, o + (off + n.toNat * sz), none⟩)) ?_ (.ptr hloc) (by simp) (by simp)
      simp [Instr.indexAt, asIntOf, run_underlying hu, hn, size_run hs, add_mk, Nat.add_assoc, Instr.sureAddr]
  · rename_i len e cs off hu
    obtain ⟨a, f, rfl, hst, hc, hv⟩ := hx.fptr_inv
    split at h
    case isFalse => cases h
    rename_i hn
    cases hs : sizeOf? P e with
    | none => rw [hs] at h; cases h
    | some sz =>
      rw [hs] at h; cases h
      refine Same.flat (c := .pointer (some (a.add (off + n.toNat * sz)))) ?_ (.fptr f hst hc hv) (by simp) (by simp)
      simp [Instr.indexAt, asIntOf, run_underlying hu, hn, size_run hs, add_add, Instr.sureAddr]
  · cases h
theorem fieldAddr_same {t : TypeId} {x v : V} {c : Value} {i : Nat} (hx : VR G w x c) (h : fieldAddrV P t x i = some v) : Same P G tl E w (Instr.fieldAt t c i) v := by
  unfold fieldAddrV at h
  split at h
  case h_2 => cases h
  rename_i fs hu
  cases hf : fs[i]? with
  | none => rw [hf] at h; cases h
  | some f =>
    rw [hf] at h
    simp only at h
    split at h
    case h_2 => cases h
    rename_i m hs
    have hpl : ∀ a : Addr, (fieldPlace a f).run P w = .ok (a.add f.offset) w := by
      intro a; simp [fieldPlace, size_run hs]
    split at h <;> cases h
    · obtain ⟨b, o, hloc, rfl⟩ := hx.ptr_inv
      rename_i off
      refine Same.flat (c := .pointer (some ⟨b, o + (off + f.offset), none⟩)) ?_ (.ptr hloc) (by simp) (by simp)
      simp [Instr.fieldAt, run_underlying hu, hf, Instr.sureAddr, hpl, add_mk, Nat.add_assoc]
    · obtain ⟨a, g, rfl, hst, hc, hv⟩ := hx.fptr_inv
      rename_i off
      refine Same.flat (c := .pointer (some (a.add (off + f.offset)))) ?_ (.fptr g hst hc hv) (by simp) (by simp)
      simp [Instr.fieldAt, run_underlying hu, hf, Instr.sureAddr, hpl, add_add]
theorem minmax_run {big : Bool} {ats : Array TypeId} {ty : TypeId} : ∀ (vs : List V) (x v : V) (c : Value) (cs : List Value), minmax big x vs = some v → VR G w x c → cs.length = vs.length → (∀ j (h : j < vs.length) (h' : j < cs.length), VR G w (vs[j]'h) (cs[j]'h')) →
    ∃ k n, v = .int k n ∧ (cs.foldlM (if big then Builtin.max2 else Builtin.min2) c : Sem Value).run P w = .ok (.int k n) w := by
  intro vs
  induction vs with
  | nil =>
    intro x v c cs h hx hl hv
    cases cs with
    | cons => simp at hl
    | nil =>
      cases x <;> simp only [minmax] at h <;> cases h
      obtain rfl := hx.int_inv
      exact ⟨_, _, rfl, rfl⟩
  | cons y vs ih =>
    intro x v c cs h hx hl hv
    cases cs with
    | nil => simp at hl
    | cons d cs =>
      cases x <;> cases y <;> simp only [minmax] at h <;> try cases h
      rename_i k m k' m'
      obtain rfl := hx.int_inv
      have h0 := hv 0 (by simp) (by simp)
      simp only [List.getElem_cons_zero] at h0
      obtain rfl := h0.int_inv
      have hm : ((if big then Builtin.max2 else Builtin.min2) (.int k m) (.int k' m')).run P w = .ok (.int k (if big then (if m' > m then m' else m) else (if m' < m then m' else m))) w := by
        cases big <;> simp [Builtin.max2, Builtin.min2]
      obtain ⟨k2, n2, e1, e2⟩ := ih _ v _ cs h .int (by simpa using hl) (fun j h1 h2 => by
        have := hv (j + 1) (by simpa using h1) (by simpa using h2)
        simpa using this)
      refine ⟨k2, n2, e1, ?_⟩
      rw [List.foldlM_cons, Sem.run_bind, hm, Result.andThen_ok, e2]
end
end Go.Ab

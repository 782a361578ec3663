import Derived.Test.YtdfcbophcfjakaaAb8
import Derived.MapKept
set_option linter.unusedSimpArgs false
set_option linter.unusedVariables false
set_option linter.unusedSectionVars false
/- Operations that read objects, and slices. -/
namespace Go.Ab
section
variable {P : Program} {G : Gh} {tl : Nat → Nat → Option (Nat × Nat)} {E : Nat} {toks : List Nat} {objs : List AO} {w : World} {env : Nat → V} {a : Act}
theorem obj_cell (hs : Store G tl E toks objs w) {id ver : Nat} {cs : List V} (h : getObj objs id ver = some cs) :
    ∃ b o arr el, objs[id]? = some (.cells cs ver) ∧ G.loc id ver = some (b, o) ∧ Own G w b o cs.length arr el ∧ (∀ j, j < cs.length → w.cell? ((⟨b, o, none⟩ : Addr).add j) = some (arr.getD (o + j) Go.undef)) ∧
      (∀ j (h : j < cs.length), VR G w (cs[j]'h) (arr.getD (o + j) Go.undef)) ∧ ∀ x, ¬ G.st b x := by
  unfold getObj at h
  split at h
  case h_2 => cases h
  rename_i cs' v hi
  split at h <;> cases h
  rename_i hv; subst hv
  obtain ⟨b, o, arr, el, h1, ⟨h2, h3⟩, h4, h5⟩ := hs.cellsR id _ _ hi
  refine ⟨b, o, arr, el, hi, h1, ⟨h2, h3⟩, fun j hj => ?_, h4, h5⟩
  rw [add_mk]
  unfold World.cell?
  simp only [h2]
  rw [getD_eq (by omega)]
  simp [show o + j < arr.size by omega]
theorem bound_run {x : Option Operand} {d l : Nat} (he : EnvR G tl E w env a) (h : boundV (x.map (opd env)) d = some l) :
    (x = none ∧ l = d) ∨ ∃ y k n, x = some y ∧ a.eval y = .int k n ∧ 0 ≤ n ∧ n.toNat = l := by
  cases x with
  | none => simp only [Option.map_none, boundV] at h; cases h; exact .inl ⟨rfl, rfl⟩
  | some y =>
    simp only [Option.map_some, boundV] at h
    split at h
    · cases ‹some (opd env y) = none›
    · rename_i k n hk
      have hx := opd_vr he y
      rw [Option.some.inj hk] at hx
      split at h <;> cases h
      exact .inr ⟨y, k, n, rfl, hx.int_inv, by assumption, rfl⟩
    · cases h
theorem sliceBound_run {k : IntKind} {n : Int} {y : Nat} {code : BoundsCode} (h0 : 0 ≤ n) (h1 : n.toNat ≤ y) : (Instr.sliceBound (.int k n) y code).run P w = .ok n.toNat w := by
  simp [Instr.sliceBound, asIntOf, h0, show n ≤ (y : Int) by omega]
theorem bounds_run {lo hi mx : Option Operand} {s : Bool} {len cap l h m : Nat} (he : EnvR G tl E w env a) (h1 : boundV (lo.map (opd env)) 0 = some l) (h2 : boundV (hi.map (opd env)) len = some h)
    (h3 : (mx = none ∧ m = cap) ∨ (mx ≠ none ∧ hi ≠ none ∧ boundV (mx.map (opd env)) 0 = some m)) (hl : l ≤ h) (hh : h ≤ m) (hm : m ≤ cap) :
    (Instr.sliceBounds s len cap (lo.map a.eval) (hi.map a.eval) (mx.map a.eval)).run P w = .ok (l, h, m) w := by
  unfold Instr.sliceBounds
  rcases bound_run he h1 with ⟨rfl, rfl⟩ | ⟨x, k, n, rfl, e1, g1, rfl⟩ <;> rcases bound_run he h2 with ⟨rfl, rfl⟩ | ⟨x', k', n', rfl, e2, g2, rfl⟩
  all_goals rcases h3 with ⟨rfl, rfl⟩ | ⟨hn, hn2, h3⟩
  all_goals first | exact absurd rfl hn2 | skip
  all_goals try
    rcases bound_run he h3 with ⟨rfl, _⟩ | ⟨x3, k3, n3, rfl, e3, g3, rfl⟩
    · exact absurd rfl hn
  all_goals simp_all [sliceBound_run]
theorem addr_cut (q : Option Addr) (l n m : Nat) (sz : Nat) : True := trivial
set_option maxHeartbeats 1000000 in
theorem slice_ok {o : Oper} {v : V} {t : TypeId} {x : Operand} {lo hi mx : Option Operand} (hop : o.op = .slice t x lo hi mx) (he : EnvR G tl E w env a) (hs : Store G tl E toks objs w)
    (h : sliceV P t (opd env x) (lo.map (opd env)) (hi.map (opd env)) (mx.map (opd env)) = some v) : Does P G tl E objs w a o v toks objs := by
  have hx := opd_vr he x
  have hrun : ∀ c, (Instr.sliceAt t (a.eval x) (lo.map a.eval) (hi.map a.eval) (mx.map a.eval)).run P w = .ok c w → (execOp a.eval o).run P w = .ok (.value c) w := by
    intro c hc
    simp [execOp, hop, hc]
  have hnm : ∀ {m : Option Operand}, m.map (opd env) = none → m = none := fun {m} h => by cases m <;> simp_all
  unfold sliceV at h
  split at h
  · rename_i s hu hk
    rw [hk] at hx
    have e := hx.str_inv
    split at h
    case h_2 => cases h
    rename_i l r g1 g2 g3
    split at h <;> cases h
    rename_i hc
    have hb := bounds_run (P := P) (s := false) (cap := s.size) (m := s.size) he g1 g2 (.inl ⟨hnm g3, rfl⟩) hc.1 hc.2 (Nat.le_refl _)
    rw [hnm g3] at hb
    refine does_same hs (hrun (.string (s.extract l r)) ?_) .str (flatTok (by simp) (by simp))
    simp only [Instr.sliceAt, Sem.run_bind, run_underlying hu, Result.andThen_ok, Instr.slice, e, hnm g3]
    simp only [Option.map_none] at hb ⊢
    simp [hb]
  · rename_i e' k cs len hu hk
    rw [hk] at hx
    obtain ⟨q, cap, f, e, hl, hst, hcl, hv⟩ := hx.lst_inv
    split at h
    case h_2 => cases h
    rename_i l r n g1 g2 g3
    split at h <;> cases h
    rename_i hc
    obtain ⟨c1, c2, c3⟩ := hc
    have hm : ∃ m, ((mx = none ∧ m = cap) ∨ (mx ≠ none ∧ hi ≠ none ∧ boundV (mx.map (opd env)) 0 = some m)) ∧ r ≤ m ∧ m ≤ cap := by
      rcases c3 with c3 | ⟨c3, c4⟩
      · exact ⟨cap, .inl ⟨hnm (Option.isNone_iff_eq_none.1 c3), rfl⟩, by omega, Nat.le_refl _⟩
      · cases mx with
        | none => exact ⟨cap, .inl ⟨rfl, rfl⟩, by omega, Nat.le_refl _⟩
        | some mo =>
          cases hi with
          | none => simp at c3
          | some ho => exact ⟨r, .inr ⟨by simp, by simp, c4⟩, Nat.le_refl _, by omega⟩
    obtain ⟨m, hm1, hm2, hm3⟩ := hm
    have hb := bounds_run (P := P) (s := true) he g1 g2 hm1 c1 hm2 hm3
    have hq : (if m = l then q else q.add (l * n)) = q.add (l * n) ∨ (m = l ∧ r - l = 0) := by
      by_cases hml : m = l
      · right; omega
      · left; rw [if_neg hml]
    refine does_same hs (c := .slice (some (if m = l then q else q.add (l * n))) (r - l) (m - l)) (hrun _ ?_) ?_ (TokT.of (fun k cs len e => by cases e; rfl) (by simp))
    · simp only [Instr.sliceAt, Sem.run_bind, run_underlying hu, Result.andThen_ok, Instr.slice, e, hb, size_run g3, Sem.run_pure]
      by_cases hml : m = l
      · rw [if_pos hml, if_pos hml]
      · rw [if_neg hml, if_neg hml]; rfl
    · have hlen : ((cs.take (r * n)).drop (l * n)).length ≤ (r - l) * n := by
        rw [List.length_drop, List.length_take, Nat.sub_mul]; omega
      have hadd : ∀ j, j < ((cs.take (r * n)).drop (l * n)).length → (if m = l then q else q.add (l * n)).add j = q.add (l * n + j) := by
        intro j hj
        rcases hq with h1 | ⟨h1, h2⟩
        · rw [h1, add_add]
        · rw [h2, Nat.zero_mul] at hlen; omega
      refine .lst (fun j => f (l * n + j)) (by omega) (fun j hj => ?_) (fun j hj => ?_) (fun j hj => ?_)
      · have h1 := hadd j hj
        rw [List.length_drop, List.length_take] at hj
        have h2 : (if m = l then q else q.add (l * n)).block = q.block ∧ (if m = l then q else q.add (l * n)).off + j = q.off + (l * n + j) := by
          have e1 := congrArg Addr.block h1
          have e2 := congrArg Addr.off h1
          rw [add_block, add_block] at e1
          rw [add_off, add_off] at e2
          exact ⟨e1, e2⟩
        rw [h2.1, h2.2]; exact hst _ (by omega)
      · rw [hadd j hj]
        rw [List.length_drop, List.length_take] at hj
        exact hcl _ (by omega)
      · rw [List.getElem_drop, List.getElem_take]; exact hv _ _
  · rename_i e' hu hk
    rw [hk] at hx
    have e := hx.nils_inv
    split at h
    case h_2 => cases h
    rename_i n g1 g2 g4
    split at h
    case isFalse => cases h
    rename_i c3
    cases h
    have hm : (mx = none ∧ 0 = 0) ∨ (mx ≠ none ∧ hi ≠ none ∧ boundV (mx.map (opd env)) 0 = some 0) := by
      rcases c3 with c3 | ⟨c3, c4⟩
      · exact .inl ⟨hnm (Option.isNone_iff_eq_none.1 c3), rfl⟩
      · cases mx with
        | none => exact .inl ⟨rfl, rfl⟩
        | some mo =>
          cases hi with
          | none => simp at c3
          | some ho => exact .inr ⟨by simp, by simp, c4⟩
    have hb := bounds_run (P := P) (s := true) (cap := 0) (m := 0) he g1 g2 hm (Nat.le_refl _) (Nat.le_refl _) (Nat.le_refl _)
    refine does_same hs (c := .slice none 0 0) (hrun _ ?_) .nils (flatTok (by simp) (by simp))
    simp only [Instr.sliceAt, Sem.run_bind, run_underlying hu, Result.andThen_ok, Instr.slice, e, hb, size_run g4, Sem.run_pure]
    rfl
  · rename_i e' id ver off len n hu hk
    rw [hk] at hx
    obtain ⟨b, o', cap, p, arr, el, fz, e, hloc, hl, hhb, hp, hsz⟩ := hx.ref_inv
    split at h
    case h_2 => cases h
    rename_i l r n' g1 g2 g3
    split at h <;> cases h
    rename_i hc
    obtain ⟨c1, c2, rfl, c3⟩ := hc
    have hm : ∃ m, ((mx = none ∧ m = cap) ∨ (mx ≠ none ∧ hi ≠ none ∧ boundV (mx.map (opd env)) 0 = some m)) ∧ r ≤ m ∧ m ≤ cap := by
      rcases c3 with c3 | ⟨c3, c4⟩
      · exact ⟨cap, .inl ⟨hnm (Option.isNone_iff_eq_none.1 c3), rfl⟩, by omega, Nat.le_refl _⟩
      · cases mx with
        | none => exact ⟨cap, .inl ⟨rfl, rfl⟩, by omega, Nat.le_refl _⟩
        | some mo =>
          cases hi with
          | none => simp at c3
          | some ho => exact ⟨r, .inr ⟨by simp, by simp, c4⟩, Nat.le_refl _, by omega⟩
    obtain ⟨m, hm1, hm2, hm3⟩ := hm
    have hb := bounds_run (P := P) (s := true) (cap := cap) (m := m) he g1 g2 hm1 c1 hm2 hm3
    by_cases hml : m = l
    · refine does_same hs (c := .slice (some ⟨b, p, none⟩) (r - l) (m - l)) (hrun _ ?_) (.ref hloc (by omega) (fun h => by omega) hhb (fun h => by omega)) (flatTok (by simp) (by simp))
      simp only [Instr.sliceAt, Sem.run_bind, run_underlying hu, Result.andThen_ok, Instr.slice, e, hb, size_run g3, Sem.run_pure]
      rw [if_pos hml]
    · have hcap : 0 < cap := by omega
      obtain rfl := hp hcap
      refine does_same hs (c := .slice (some ⟨b, o' + (off + l * n), none⟩) (r - l) (m - l)) (hrun _ ?_) (.ref hloc (by omega) (fun _ => rfl) hhb (fun _ => ?_)) (flatTok (by simp) (by simp))
      · simp only [Instr.sliceAt, Sem.run_bind, run_underlying hu, Result.andThen_ok, Instr.slice, e, hb, size_run g3, Sem.run_pure]
        rw [if_neg hml]
        simp only [Option.map_some, add_mk, Nat.add_assoc]
      · have := hsz hcap
        have e1 : (m - l) * n + l * n = m * n := by rw [← Nat.add_mul]; congr 1; omega
        have e2 : m * n ≤ cap * n := Nat.mul_le_mul_right n hm3
        omega
  · cases h
theorem load_ok {o : Oper} {v : V} {t : TypeId} {x : Operand} (hop : o.op = .load t x) (he : EnvR G tl E w env a) (hs : Store G tl E toks objs w) (h : readV P (opd env) objs (.load t x) = some v) : Does P G tl E objs w a o v toks objs := by
  have hx := opd_vr he x
  simp only [readV] at h
  split at h
  · rename_i id ver off hk
    rw [hk] at hx
    obtain ⟨b, o', hloc, e⟩ := hx.ptr_inv
    cases hg : getObj objs id ver with
    | none => rw [hg] at h; cases h
    | some cs =>
      rw [hg] at h
      simp only at h
      cases hv : getV P t cs off with
      | none => rw [hv] at h; cases h
      | some u =>
        rw [hv] at h; cases h
        obtain ⟨b2, o2, arr, el, h1, h2, h3, h4, h5, h6⟩ := obj_cell hs hg
        rw [h2] at hloc; cases hloc
        obtain ⟨c, c1, c2⟩ := getV_load (G := G) _ hv h4 h5
        rw [add_mk] at c1
        exact does_same hs (c := c) (by simp [execOp, hop, e, Instr.loadAt, Instr.sureAddr, c1]) c2.demote TokT.demote
  · rename_i cs off hk
    rw [hk] at hx
    obtain ⟨q, f, e, hst, hc, hv⟩ := hx.fptr_inv
    cases hg : getV P t cs off with
    | none => rw [hg] at h; cases h
    | some u =>
      rw [hg] at h; cases h
      obtain ⟨c, c1, c2⟩ := getV_load (G := G) _ hg hc hv
      exact does_same hs (c := c) (by simp [execOp, hop, e, Instr.loadAt, Instr.sureAddr, c1]) c2.demote TokT.demote
  · cases h
theorem sliceA_ok {o : Oper} {v : V} {t : TypeId} {x : Operand} {id ver off : Nat} {lo hi mx : Option Operand} (hop : o.op = .slice t x lo hi mx) (hk : opd env x = .ptr id ver off) (he : EnvR G tl E w env a) (hs : Store G tl E toks objs w)
    (h : sliceA P t (.ptr id ver off) objs (lo.map (opd env)) (hi.map (opd env)) (mx.map (opd env)) = some v) : Does P G tl E objs w a o v toks objs := by
  have hx := opd_vr he x
  rw [hk] at hx
  obtain ⟨b, o', hloc, e⟩ := hx.ptr_inv
  have hnm : ∀ {m : Option Operand}, m.map (opd env) = none → m = none := fun {m} h => by cases m <;> simp_all
  unfold sliceA at h
  split at h
  case h_2 => cases h
  rename_i k el0 id' ver' off' hu hkk
  cases hkk
  split at h
  case h_2 => cases h
  rename_i cs l r n g0 g1 g2 g3 g4
  split at h <;> cases h
  rename_i hc
  obtain ⟨c1, c2, c3⟩ := hc
  obtain ⟨b2, o2, arr, el, h1, h2, h3, h4, h5, h6⟩ := obj_cell hs g0
  rw [h2] at hloc; cases hloc
  have hb := bounds_run (P := P) (s := false) (cap := k) (m := k) he g1 g2 (.inl ⟨hnm g4, rfl⟩) c1 c2 (Nat.le_refl _)
  have hfit := h3.fit
  by_cases hml : k = l
  · refine does_same hs (c := .slice (some ⟨b, o' + off, none⟩) (r - l) (k - l)) ?_ (.ref h2 (by omega) (fun h => by omega) h3.at_ (fun h => by omega)) (flatTok (by simp) (by simp))
    simp only [execOp, hop, Instr.sliceAt, Sem.run_bind, run_underlying hu, Result.andThen_ok, e, Instr.sureAddr, Sem.run_pure, hb, size_run g3]
    rw [if_pos hml]
  · refine does_same hs (c := .slice (some ⟨b, o' + (off + l * n), none⟩) (r - l) (k - l)) ?_ (.ref h2 (by omega) (fun _ => rfl) h3.at_ (fun _ => ?_)) (flatTok (by simp) (by simp))
    · simp only [execOp, hop, Instr.sliceAt, Sem.run_bind, run_underlying hu, Result.andThen_ok, e, Instr.sureAddr, Sem.run_pure, hb, size_run g3]
      rw [if_neg hml]
      simp only [add_mk, Nat.add_assoc]
    · have e1 : (k - l) * n + l * n = k * n := by rw [← Nat.add_mul]; congr 1; omega
      omega
theorem keyEq_now {d : TypeDesc} {x y : V} {c c' : Value} {r : Bool} (hx : VR G w x c) (hy : VR G w y c') (h : keyEq d x y = some r) : Instr.sameNow d c c' = some r ∧ (r = true → c = c') := by
  unfold keyEq at h
  split at h
  · split at h
    · rename_i e
      subst e; rw [hx.int_inv, hy.int_inv]
      refine ⟨by simpa [Instr.sameNow] using h, fun hr => ?_⟩
      subst hr; simp at h; rw [h]
    · cases h
  · rw [hx.str_inv, hy.str_inv]
    refine ⟨by simpa [Instr.sameNow] using h, fun hr => ?_⟩
    subst hr; rw [(MapKept.bytes_beq _ _).1 (Option.some.inj h)]
  · rw [hx.bool_inv, hy.bool_inv]
    refine ⟨by simpa [Instr.sameNow] using h, fun hr => ?_⟩
    subst hr; simp at h; rw [h]
  · cases h
theorem keyOk_run {d : TypeDesc} {x : V} {c : Value} (hx : VR G w x c) (h : keyOk d x = true) {kt : TypeId} (hd : P.underlying kt = some d) (e : Bool) (n : Nat) : (Instr.checkKey e (n + 1) kt c).run P w = .ok () w := by
  unfold Instr.checkKey
  simp only [Sem.run_bind, run_underlying hd, Result.andThen]
  unfold keyOk at h
  unfold keyEq at h
  split at h
  · rw [hx.int_inv]; rfl
  · rw [hx.str_inv]; rfl
  · rw [hx.bool_inv]; rfl
  · cases h
theorem keyOk_same {d : TypeDesc} {x : V} {c : Value} (hx : VR G w x c) (h : keyOk d x = true) (n : Nat) : Instr.sameBits n c c = true := by
  unfold keyOk at h
  unfold keyEq at h
  split at h
  · rw [hx.int_inv]; cases n <;> simp [Instr.sameBits]
  · rw [hx.str_inv]; cases n <;> simp [Instr.sameBits, (MapKept.bytes_beq _ _).2]
  · rw [hx.bool_inv]; cases n <;> simp [Instr.sameBits]
  · cases h
/-- Where a key stands, at the machine. -/
theorem find_now {d : TypeDesc} {k : V} {c : Value} (hk : VR G w k c) : ∀ (es : List (V × V)) (l : List MapEntry) (i : Nat) (r : Option (Nat × V)), l.length = es.length → (∀ j (h : j < es.length) (h' : j < l.length), VR G w (es[j]'h).1 (l[j]'h').key ∧ VR G w (es[j]'h).2 (l[j]'h').val) → findV d k es i = some r →
    (r = none ∧ Instr.findNow d c l i = some none) ∨ ∃ j e v, r = some (i + j, v) ∧ Instr.findNow d c l i = some (some (i + j, e.val)) ∧ l[j]? = some e ∧ e.key = c ∧ VR G w v e.val
  | [], [], i, r, _, _, h => by cases h; exact .inl ⟨rfl, rfl⟩
  | [], _ :: _, _, _, hl, _, _ => by simp at hl
  | _ :: _, [], _, _, hl, _, _ => by simp at hl
  | e :: es, m :: l, i, r, hl, hv, h => by
    have h0 := hv 0 (by simp) (by simp)
    simp only [List.getElem_cons_zero] at h0
    unfold findV at h
    split at h
    · rename_i hq
      cases h
      obtain ⟨q1, q2⟩ := keyEq_now hk h0.1 hq
      exact .inr ⟨0, m, e.2, rfl, by simp [Instr.findNow, q1], rfl, (q2 rfl).symm, h0.2⟩
    · rename_i hq
      obtain ⟨q1, q2⟩ := keyEq_now hk h0.1 hq
      have := find_now hk es l (i + 1) r (by simpa using hl) (fun j h1 h2 => by have := hv (j + 1) (by simp; omega) (by simp; omega); simp only [List.getElem_cons_succ] at this; exact this) h
      rcases this with ⟨a, b⟩ | ⟨j, m', v, a1, a2, a3, a4, a5⟩
      · exact .inl ⟨a, by simp [Instr.findNow, q1, b]⟩
      · exact .inr ⟨j + 1, m', v, by rw [a1]; congr 2; omega, by simp only [Instr.findNow, q1, a2]; congr 3; omega, by simpa using a3, a4, a5⟩
    · cases h
theorem row_map {x : V} {c : Value} {es : List (V × V)} (hs : Store G tl E toks objs w) (hx : VR G w x c) (h : rowMap objs x = some es) :
    (c = .map none ∧ es = []) ∨ ∃ id b arr cl, x = .map id ∧ objs[id]? = some (.map es) ∧ G.loc id 0 = some (b, 0) ∧ c = .map (some b) ∧ w.heap[b]? = some (.map arr cl) ∧ EntR G w es arr ∧ ∀ x, ¬ G.st b x := by
  unfold rowMap at h
  split at h
  · cases h; exact .inl ⟨hx.nilm_inv, rfl⟩
  · rename_i id
    unfold Ab.getMap at h
    split at h
    case h_2 => cases h
    rename_i es' hg
    cases h
    obtain ⟨b, arr, cl, a1, a2, a3, a4⟩ := hs.maps.row id es hg
    cases hx
    rename_i b' hl
    rw [a1] at hl; cases hl
    exact .inr ⟨id, b, arr, cl, rfl, hg, a1, rfl, a2, a3, a4⟩
  · cases h
theorem zval_run {t : TypeId} {z : V} (h : zval P t = some z) : ∃ v, (Go.zeroValue t).run P w = .ok v w ∧ VR G w z v := by
  unfold zval at h
  cases hi : P.info? t with
  | none => rw [hi] at h; cases h
  | some i =>
    rw [hi] at h
    simp only [Option.bind_some] at h
    cases hz : i.zero with
    | none => rw [hz] at h; cases h
    | some v =>
      rw [hz] at h; cases h
      exact ⟨v, by simp [Go.zeroValue, typeInfo, hi, hz], ofConst_vr v⟩
theorem lookup_ok {o : Oper} {v : V} {t : TypeId} {x i : Operand} {ok : Bool} (hop : o.op = .lookup t x i ok) (he : EnvR G tl E w env a) (hs : Store G tl E toks objs w) (h : lookupV P t (opd env x) (opd env i) ok objs = some v) : Does P G tl E objs w a o v toks objs := by
  have hx := opd_vr he x
  have hi := opd_vr he i
  unfold lookupV at h
  split at h
  case h_2 => cases h
  rename_i kt et es hu hr
  split at h
  case h_2 => cases h
  rename_i d hd
  split at h
  case isFalse => cases h
  rename_i hk
  split at h
  case h_2 => cases h
  rename_i r z hf hz
  obtain ⟨zv, z1, z2⟩ := zval_run (G := G) (w := w) hz
  obtain ⟨c, u, hrun, f2, f3⟩ : ∃ (c : Value) (u : V), (Instr.lookup t (a.eval x) (a.eval i) ok).run P w = .ok (if ok then .tuple #[c, .bool r.isSome] else c) w ∧ VR G w u c ∧ v = if ok then .tup [demote u, .bool r.isSome] else demote u := by
    rcases row_map hs hx hr with ⟨e, e2⟩ | ⟨id, b, arr, cl, e1, e2, e3, e4, e5, e6, e7⟩
    · subst e2
      cases hf
      have q : Instr.findNow d (a.eval i) [] 0 = some none := rfl
      refine ⟨zv, z, ?_, z2, by cases h; rfl⟩
      rw [e]
      simp [Instr.lookup, run_underlying hu, keyOk_run hi hk hd, MapKept.run_findKey hd q, z1, Result.andThen]
    · rcases find_now hi es arr.toList 0 r (by simpa using e6.1) (fun j h1 h2 => by simpa using e6.2 j h1 (by simpa using h2)) hf with ⟨r0, r1⟩ | ⟨j, e, u, r0, r1, r2, r3, r4⟩
      · subst r0
        refine ⟨zv, z, ?_, z2, by cases h; rfl⟩
        rw [e4]
        simp [Instr.lookup, run_underlying hu, MapKept.run_getObj_map e5, keyOk_run hi hk hd, MapKept.run_findKey hd r1, z1, Result.andThen]
      · subst r0
        refine ⟨e.val, u, ?_, r4, by cases h; rfl⟩
        rw [e4]
        simp [Instr.lookup, run_underlying hu, MapKept.run_getObj_map e5, keyOk_run hi hk hd, MapKept.run_findKey hd r1, Result.andThen]
  have hex : (execOp a.eval o).run P w = .ok (.value (if ok then .tuple #[c, .bool r.isSome] else c)) w := by
    simp [execOp, hop, hrun]
  subst f3
  cases ok with
  | false => exact does_same hs hex f2.demote TokT.demote
  | true =>
    refine does_same hs hex (.tup rfl fun j hj => ?_) ⟨TokOk.of (by simp), fun vs as e1 e2 j hj => ?_⟩
    · match j with
      | 0 => exact f2.demote
      | 1 => exact .bool
      | j + 2 => exact absurd hj (by simp)
    · cases e1
      match j with
      | 0 => exact TokOk.of (demote_plain u).1
      | 1 => exact TokOk.of (by simp)
      | j + 2 => exact absurd hj (by simp)
theorem read_ok {o : Oper} {v : V} (he : EnvR G tl E w env a) (hs : Store G tl E toks objs w) (h : readV P (opd env) objs o.op = some v) : Does P G tl E objs w a o v toks objs := by
  obtain ⟨op, hop⟩ : ∃ op, o.op = op := ⟨_, rfl⟩
  rw [hop] at h
  cases op with
  | load t x => exact load_ok hop he hs h
  | slice t x lo hi mx =>
    simp only [readV] at h
    split at h
    · rename_i id ver off hk; exact sliceA_ok hop hk he hs h
    · exact slice_ok hop he hs h
  | lookup t x i ok => exact lookup_ok hop he hs h
  | _ => simp only [readV] at h; cases h
theorem readV_nil {ρ : Operand → V} {objs : List AO} {op : Op} {v : V} (h : readV P ρ [] op = some v) : readV P ρ objs op = some v := by
  cases op with
  | load t x =>
    simp only [readV] at h ⊢
    split at h
    · simp [Ab.getObj] at h
    · exact h
    · cases h
  | slice t x lo hi mx =>
    simp only [readV] at h ⊢
    split at h
    · simp only [sliceA, Ab.getObj, List.getElem?_nil] at h
      split at h
      · cases h
      · cases h
    · exact h
  | lookup t x i ok =>
    simp only [readV] at h ⊢
    unfold lookupV at h ⊢
    split at h
    case h_2 => cases h
    rename_i kt et es hu hr
    have hr' : rowMap objs (ρ x) = some es := by
      unfold rowMap at hr ⊢
      split at hr
      · exact hr
      · simp [Ab.getMap] at hr
      · cases hr
    rw [hu, hr']
    exact h
  | _ => simp only [readV] at h; cases h
theorem pureX_ok {o : Oper} {v : V} (he : EnvR G tl E w env a) (hs : Store G tl E toks objs w) (hE : E ≤ w.heap.size) (h : pureX P (opd env) o.op = some v) : Does P G tl E objs w a o v toks objs := by
  unfold pureX at h
  split at h
  · rename_i hop; exact read_ok he hs (by rw [hop]; exact readV_nil h)
  · rename_i hop; exact read_ok he hs (by rw [hop]; exact readV_nil h)
  · exact pure_ok he hs hE h
end
end Go.Ab

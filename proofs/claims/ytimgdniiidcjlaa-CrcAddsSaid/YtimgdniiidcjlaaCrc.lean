import Derived.Test.YtimgdniiidcjlaaAb19
import Derived.Laws.Closers25b
import Derived.Test.YtimgdniiidcjlaaRows
set_option linter.unusedSimpArgs false
set_option linter.unusedVariables false
set_option linter.unusedSectionVars false
set_option maxRecDepth 20000
namespace Go.Proofs.Ytimgdniiidcjlaa.Crc
open Go.Ab
def A1 : Ann := { mode := fun f d => if (f == 14 && d == 11) || (f == 18 && d == 5) || (f == 8 && d == 6) then [.tok] else [], keep := fun f => f == 30 || f == 32, mutf := fun f => f == 30 || f == 32 }
theorem A1_mode (f d : Nat) : A1.mode f d = if (f == 14 && d == 11) || (f == 18 && d == 5) || (f == 8 && d == 6) then [.tok] else [] := rfl
theorem A1_mutf (f : Nat) : A1.mutf f = (f == 30 || f == 32) := rfl
theorem A1_keep (f : Nat) : A1.keep f = (f == 30 || f == 32) := rfl
attribute [local simp] A1_mode A1_mutf A1_keep
attribute [local simp] runL_nil runL_cons next_some contS_norm contS_ret contS_exit contB_some norm1_some run_region run_seq fork_true fork_false run_cond run_block run_loop run_skip run_ret run_exit opR evalOp kindOf pureV readV opd ofConst ofCell St.put Ab.put upd entryEnv binV intBin unV finish resVals resVal outAll out1 packV Ab.noref readCall target bindRes bind1 tokV rowOf srcOf oneCell Ann.md Ann.modes fullCall withF cA cB Ex.leave demote
theorem fit : Fit Try.prog := fit_of (by kernel_rfl)
/-! types -/
theorem u22 : Try.prog.underlying 22 = some (.slice 5) := by kernel_rfl
theorem u36 : Try.prog.underlying 36 = some (.slice 22) := by kernel_rfl
theorem u5 : Try.prog.underlying 5 = some (.int .u8) := by kernel_rfl
theorem u25 : Try.prog.underlying 25 = some (.int .u32) := by kernel_rfl
theorem u3 : Try.prog.underlying 3 = some (.int .i64) := by kernel_rfl
theorem z5 : sizeOf? Try.prog 5 = some 1 := by kernel_rfl
theorem z22 : sizeOf? Try.prog 22 = some 1 := by kernel_rfl
theorem v5 : zeroV Try.prog 5 = some [.int .u8 0] := by kernel_rfl
theorem v22 : zeroV Try.prog 22 = some [.nils] := by kernel_rfl
theorem g5 : Ab.isAgg Try.prog 5 = false := by kernel_rfl
theorem g22 : Ab.isAgg Try.prog 22 = false := by kernel_rfl
theorem n5 : known Try.prog 5 = true := by kernel_rfl
theorem n22 : known Try.prog 22 = true := by kernel_rfl
theorem f5 (n : Nat) : fits Try.prog 5 n = decide (n < 140737488355328) := by
  have h : (Try.prog.info? 5).map (fun i => (i.size, i.bytes)) = some (1, 1) := by kernel_rfl
  unfold fits
  cases hi : Try.prog.info? 5 with
  | none => rw [hi] at h; cases h
  | some i => rw [hi] at h; simp at h; simp [h.1, h.2]
attribute [local simp] u22 u36 u5 u25 u3 z5 z22 v5 v22 g5 g22 n5 n22 f5
/-! whole numbers -/
theorem wrap_small {n : Int} (h0 : 0 ≤ n) (h1 : n < 9223372036854775808) : IntKind.i64.wrap n = n := by
  have h : n % 18446744073709551616 = n := Int.emod_eq_of_lt h0 (by omega)
  show (if (true && decide (n % 18446744073709551616 ≥ 9223372036854775808)) then n % 18446744073709551616 - 18446744073709551616 else n % 18446744073709551616) = n
  simp only [h]
  rw [if_neg]
  simp; omega
theorem wrap_nat {i : Nat} (h : i < 140737488355328) : IntKind.i64.wrap ((i : Int) + 1) = ((i + 1 : Nat) : Int) := by
  rw [wrap_small (by omega) (by omega)]; omega
/-! bytes -/
def bytes (l : List Int) : V := .lst .frozen (l.map (.int .u8)) l.length
def ofBs : List V → Option (List Int)
  | [] => some []
  | .int .u8 c :: vs => (ofBs vs).map (c :: ·)
  | _ => none
def ofB : V → Option (List Int)
  | .nils => some []
  | .lst .frozen cs len => (ofBs cs).bind fun l => if len = l.length then some l else none
  | _ => none
theorem ofBs_map (l : List Int) : ofBs (l.map (.int .u8)) = some l := by induction l with | nil => rfl | cons c l ih => simp [ofBs, ih]
theorem ofBs_inv : ∀ {vs : List V} {l : List Int}, ofBs vs = some l → vs = l.map (.int .u8)
  | [], l, h => by simp [ofBs] at h; subst h; rfl
  | v :: vs, l, h => by
    unfold ofBs at h
    split at h
    · rename_i h1; cases h1
    · rename_i c us h1
      cases h1
      cases hu : ofBs vs with
      | none => rw [hu] at h; cases h
      | some u => rw [hu] at h; cases h; rw [ofBs_inv hu]; rfl
    · cases h
theorem ofB_inv {v : V} {l : List Int} (h : ofB v = some l) : v = bytes l ∨ (v = .nils ∧ l = []) := by
  unfold ofB at h
  split at h
  · cases h; exact .inr ⟨rfl, rfl⟩
  · rename_i cs len
    cases hc : ofBs cs with
    | none => rw [hc] at h; cases h
    | some u =>
      rw [hc] at h
      simp at h
      obtain ⟨h1, rfl⟩ := h
      left; rw [ofBs_inv hc, h1]; rfl
  · cases h
@[simp] theorem ofB_bytes (l : List Int) : ofB (bytes l) = some l := by simp [ofB, bytes, ofBs_map]
@[simp] theorem ofB_nils : ofB .nils = some [] := rfl
theorem index_b {l : List V} {n : Nat} {k : LK} {i : Int} (h0 : 0 ≤ i) (h : i < n) : indexV Try.prog 22 (.lst k l n) (.int .i64 i) = some (.fptr l i.toNat) := by simp [indexV, h0, h]
theorem get_b {l : List Int} {i : Nat} (h : i < l.length) : getV Try.prog 5 (l.map (.int .u8)) i = some (.int .u8 (l[i]'h)) := by simp [getV, h]
/-! the sum's register -/
def stepZ (s : Int) : Int := if Go.bits .and .u32 s 1 = 0 then s.fdiv 2 else Go.bits .xor .u32 (s.fdiv 2) 2197175160
def c33 : Ab.Spec := fun args _ => match args with | [.int .u32 s] => some (.int .u32 (stepZ s), none) | _ => none
def T33 : CallF := withF (fun _ _ _ => none) 33 c33
theorem bits32 : IntKind.u32.bits = 32 := rfl
theorem T33_ok : CallOk Try.prog T33 := con_of (A := A1) fit con_none (fn := Try.f33) (by kernel_rfl) (by kernel_rfl) (by
  intro args objs r h
  unfold c33 at h
  split at h <;> cases h
  rename_i s
  refine .run 10 ?_
  unfold Try.f33 runF stepZ
  by_cases hc : Go.bits .and .u32 s 1 = 0
  · simp [hc, bits32]
  · have hb : (Go.bits .and .u32 s 1 != 0) = true := by simpa using hc
    simp [hc, hb, bits32])
def feedZ (s c : Int) : Int := stepZ (stepZ (stepZ (stepZ (stepZ (stepZ (stepZ (stepZ (Go.bits .xor .u32 s (IntKind.u32.wrap c)))))))))
def c22 : Ab.Spec := fun args _ => match args with | [.int .u32 s, .int .u8 c] => some (.int .u32 (feedZ s c), none) | _ => none
def T22 : CallF := withF T33 22 c22
theorem T22_ok : CallOk Try.prog T22 := con_of (A := A1) fit T33_ok (fn := Try.f22) (by kernel_rfl) (by kernel_rfl) (by
  intro args objs r h
  unfold c22 at h
  split at h <;> cases h
  rename_i s c
  exact .seg 40 [(4, .int .u32 (feedZ s c))] (toks' := []) (objs' := objs) (low' := objs.length) rfl (.inr rfl) (by kernel_rfl) (by intro e'; simp [upds, Try.f22]))
noncomputable def B11 : Code := match Try.f11.body with | some c => cA (cA (cB (cA (cB (cB c))))) | none => .skip
def extZ (s : Int) : List Int → Int | [] => s | c :: l => extZ (feedZ s c) l
theorem T22_22 (s c : Int) (objs : List AO) : T22 22 [.int .u32 s, .int .u8 c] objs = some (.int .u32 (feedZ s c), none) := rfl
theorem ext_loop (l : List Int) (hl : l.length < 140737488355328) (objs : List AO) {Q : Ex → St → Prop} : ∀ (k i : Nat) (s : St) (z : Int), i + k = l.length → s.env 10 = bytes l → s.env 11 = .int .i64 l.length → s.env 12 = .int .i64 i → s.env 5 = .int .u32 z → s.objs = objs →
    (∀ s', s'.env 5 = .int .u32 (extZ z (l.drop i)) → s'.toks = s.toks → s'.objs = objs → s'.low = s.low → Q (.exit 0) s') → To Try.prog A1 T22 11 objs.length (.loop B11) s Q := by
  intro k
  induction k with
  | zero =>
    intro i s z hi h10 h11 h12 h5 ho hQ
    have hi : i = l.length := by omega
    refine To.loop (.run 10 ?_)
    unfold B11 Try.f11
    simp [h10, h11, h12, hi]
    exact hQ _ (by simp [h5, hi, extZ]) rfl ho rfl
  | succ k ih =>
    intro i s z hi h10 h11 h12 h5 ho hQ
    have hlt : i < l.length := by omega
    have hw := wrap_nat (i := i) (by omega)
    refine To.loop (To.mono (.run 12 (Q := fun e s1 => e = .norm ∧ (s1.env 10 = bytes l ∧ s1.env 11 = .int .i64 l.length ∧ s1.env 12 = .int .i64 (i + 1 : Nat) ∧ s1.env 5 = .int .u32 (feedZ z (l[i]'hlt)) ∧ s1.objs = objs ∧ s1.toks = s.toks ∧ s1.low = s.low)) ?_) ?_)
    · unfold B11 Try.f11
      simp [h10, h11, h12, h5, hlt, bytes, index_b, get_b, T22_22, hw, ho]
    · rintro e s1 ⟨rfl, q1, q2, q3, q4, q5, q6, q7⟩
      refine ih (i + 1) s1 _ (by omega) q1 q2 q3 q4 q5 fun s' r2 r3 r4 r5 => hQ s' ?_ (by rw [r3, q6]) r4 (by rw [r5, q7])
      rw [r2, List.drop_eq_getElem_cons hlt]; rfl
def notZ (s : Int) : Int := Go.bits .xor .u32 IntKind.u32.max s
def extendZ (s : Int) (l : List Int) : Int := notZ (extZ (notZ s) l)
def c11 : Ab.Spec := fun args _ => match args with | [.int .u32 s, v] => (match ofB v with | some l => if l.length < 140737488355328 then some (.int .u32 (extendZ s l), none) else none | none => none) | _ => none
def T11 : CallF := withF T22 11 c11
theorem T11_ok : CallOk Try.prog T11 := con_of (A := A1) fit T22_ok (fn := Try.f11) (by kernel_rfl) (by kernel_rfl) (by
  intro args objs r h
  unfold c11 at h
  split at h
  case h_2 => cases h
  rename_i s v
  split at h
  case h_2 => cases h
  rename_i l hv
  split at h <;> cases h
  rename_i hl
  rcases ofB_inv hv with rfl | ⟨rfl, rfl⟩
  · refine .to rfl (.seq (.run 5 ?_))
    simp
    refine .seq (.run 5 ?_)
    simp
    refine .seq (.seq (.run 5 ?_))
    simp [bytes]
    refine .block (ext_loop l hl objs l.length 0 _ _ (by omega) rfl rfl rfl rfl rfl fun s' q1 q2 q3 q4 => ?_)
    simp only [Ex.leave, if_true, Ex.andThen_norm]
    refine .run 5 ?_
    simp [q1, q2, q3, q4, Try.f11]
    rfl
  · refine .run 12 ?_
    unfold runF Try.f11
    simp
    rfl)
theorem demI (k : IntKind) (n : Int) : demote (.int k n) = .int k n := rfl
/-! Sum -/
def ofP : List V → Option (List (List Int))
  | [] => some []
  | v :: vs => match ofB v, ofP vs with | some l, some ls => some (l :: ls) | _, _ => none
theorem ofP_get : ∀ {vs : List V} {ls : List (List Int)}, ofP vs = some ls → ls.length = vs.length ∧ ∀ i (h : i < vs.length) (h' : i < ls.length), ofB (vs[i]'h) = some (ls[i]'h') ∧ demote (vs[i]'h) = vs[i]'h
  | [], ls, h => by simp [ofP] at h; subst h; exact ⟨rfl, fun i h => absurd h (by simp)⟩
  | v :: vs, ls, h => by
    simp only [ofP] at h
    split at h
    · rename_i l us h1 h2
      cases h
      obtain ⟨g1, g2⟩ := ofP_get h2
      refine ⟨by simp [g1], fun i hi hi' => ?_⟩
      cases i with
      | zero => refine ⟨by simpa using h1, ?_⟩; rcases ofB_inv h1 with rfl | ⟨rfl, _⟩ <;> rfl
      | succ i => simpa using g2 i (by simpa using hi) (by simpa using hi')
    · cases h
def sumZ (s : Int) : List (List Int) → Int | [] => s | l :: ls => sumZ (extendZ s l) ls
noncomputable def B10 : Code := match Try.f10.body with | some c => cA (cA (cB (cA (cB (cB c))))) | none => .skip
theorem T11_11 (s : Int) (v : V) (l : List Int) (objs : List AO) (h : ofB v = some l) (hl : l.length < 140737488355328) : T11 11 [.int .u32 s, v] objs = some (.int .u32 (extendZ s l), none) := by
  show c11 [.int .u32 s, v] objs = _
  simp [c11, h, hl]
theorem index_p {l : List V} {n : Nat} {k : LK} {i : Int} (h0 : 0 ≤ i) (h : i < n) : indexV Try.prog 36 (.lst k l n) (.int .i64 i) = some (.fptr l i.toNat) := by simp [indexV, h0, h]
theorem get_p {l : List V} {i : Nat} (h : i < l.length) : getV Try.prog 22 l i = some (l[i]'h) := by simp [getV, h]
theorem sum_loop (vs : List V) (ls : List (List Int)) (hp : ofP vs = some ls) (hl : vs.length < 140737488355328) (hls : ∀ l ∈ ls, l.length < 140737488355328) (objs : List AO) {Q : Ex → St → Prop} : ∀ (k i : Nat) (s : St) (z : Int), i + k = vs.length → s.env 6 = .lst .frozen vs vs.length → s.env 7 = .int .i64 vs.length → s.env 8 = .int .i64 i → s.env 3 = .int .u32 z → s.objs = objs →
    (∀ s', s'.env 3 = .int .u32 (sumZ z (ls.drop i)) → s'.toks = s.toks → s'.objs = objs → s'.low = s.low → Q (.exit 0) s') → To Try.prog A1 T11 10 objs.length (.loop B10) s Q := by
  obtain ⟨hlen, hget⟩ := ofP_get hp
  intro k
  induction k with
  | zero =>
    intro i s z hi h10 h11 h12 h5 ho hQ
    have hi : i = vs.length := by omega
    refine To.loop (.run 10 ?_)
    unfold B10 Try.f10
    simp [h10, h11, h12, hi]
    exact hQ _ (by simp [h5, hi, ← hlen, sumZ]) rfl ho rfl
  | succ k ih =>
    intro i s z hi h10 h11 h12 h5 ho hQ
    have hlt : i < vs.length := by omega
    have hlt' : i < ls.length := by omega
    have hw := wrap_nat (i := i) (by omega)
    obtain ⟨g1, g2⟩ := hget i hlt hlt'
    have g3 := fun z objs => T11_11 z _ _ objs g1 (hls _ (List.getElem_mem hlt'))
    refine To.loop (To.mono (.run 12 (Q := fun e s1 => e = .norm ∧ (s1.env 6 = .lst .frozen vs vs.length ∧ s1.env 7 = .int .i64 vs.length ∧ s1.env 8 = .int .i64 (i + 1 : Nat) ∧ s1.env 3 = .int .u32 (extendZ z (ls[i]'hlt')) ∧ s1.objs = objs ∧ s1.toks = s.toks ∧ s1.low = s.low)) ?_) ?_)
    · unfold B10 Try.f10
      simp [-demote, demI, h10, h11, h12, h5, hlt, index_p, get_p, hw, ho, g2, g3]
    · rintro e s1 ⟨rfl, q1, q2, q3, q4, q5, q6, q7⟩
      refine ih (i + 1) s1 _ (by omega) q1 q2 q3 q4 q5 fun s' r2 r3 r4 r5 => hQ s' ?_ (by rw [r3, q6]) r4 (by rw [r5, q7])
      rw [r2, List.drop_eq_getElem_cons hlt']; rfl
def c10 : Ab.Spec := fun args _ => match args with | [.lst .frozen vs len] => (match ofP vs with | some ls => if len = vs.length ∧ vs.length < 140737488355328 ∧ (ls.all fun l => decide (l.length < 140737488355328)) = true then some (.int .u32 (sumZ 0 ls), none) else none | none => none) | _ => none
def T10 : CallF := withF T11 10 c10
theorem T10_ok : CallOk Try.prog T10 := con_of (A := A1) fit T11_ok (fn := Try.f10) (by kernel_rfl) (by kernel_rfl) (by
  intro args objs r h
  unfold c10 at h
  split at h
  case h_2 => cases h
  rename_i vs len
  split at h
  case h_2 => cases h
  rename_i ls hv
  split at h <;> cases h
  rename_i hl
  obtain ⟨rfl, h2, h3⟩ := hl
  refine .to rfl (.seq (.run 5 ?_))
  simp
  refine .seq (.run 5 ?_)
  simp
  refine .seq (.seq (.run 5 ?_))
  simp
  refine .block (sum_loop vs ls hv h2 (by simpa using h3) objs vs.length 0 _ _ (by omega) rfl rfl rfl rfl rfl fun s' q1 q2 q3 q4 => ?_)
  simp only [Ex.leave, if_true, Ex.andThen_norm]
  refine .run 5 ?_
  simp [q1, q2, q3, q4, Try.f10])
/-! the document's sum -/
def rstepZ (s : Int) : Int := if s.tmod 2 = 1 then Go.bits .xor .u32 (IntKind.u32.wrap (s.tdiv 2)) 2197175160 else IntKind.u32.wrap (s.tdiv 2)
noncomputable def R9 : Code := match Try.f9.body with | some c => cB (cA (cB (cB c))) | none => .skip
noncomputable def O9 : Code := match Try.f9.body with | some c => cA (cA (cB (cA (cB (cB c))))) | none => .skip
noncomputable def I9 : Code := cA (cA (cB (cB (cA (cA (cB O9))))))
def iterR : Nat → Int → Int | 0, z => z | n + 1, z => iterR n (rstepZ z)
theorem in9 (objs : List AO) {Q : Ex → St → Prop} : ∀ (j : Nat) (m : Int) (s : St) (z : Int), m + j = 8 → 0 ≤ m → s.env 5 = .int .i64 m → s.env 3 = .int .u32 z → s.objs = objs →
    (∀ s', s'.env 3 = .int .u32 (iterR j z) → s'.env 0 = s.env 0 → s'.env 4 = s.env 4 → s'.toks = s.toks → s'.objs = objs → s'.low = s.low → Q (.exit 2) s') → To Try.prog A1 T10 9 objs.length (.loop I9) s Q := by
  intro j
  induction j with
  | zero =>
    intro m s z hi hm h5 h3 ho hQ
    have hi : m = 8 := by omega
    refine To.loop (.run 10 ?_)
    unfold I9 O9 Try.f9
    simp [h3, h5, hi]
    exact hQ _ (by simp [h3, iterR]) rfl rfl rfl ho rfl
  | succ j ih =>
    intro m s z hi hm h5 h3 ho hQ
    have hlt : m < 8 := by omega
    have hw : IntKind.i64.wrap (m + 1) = m + 1 := wrap_small (by omega) (by omega)
    refine To.loop (To.mono (.run 14 (Q := fun e s1 => e = .norm ∧ (s1.env 5 = .int .i64 (m + 1) ∧ s1.env 3 = .int .u32 (rstepZ z) ∧ s1.env 0 = s.env 0 ∧ s1.env 4 = s.env 4 ∧ s1.objs = objs ∧ s1.toks = s.toks ∧ s1.low = s.low)) ?_) ?_)
    · unfold I9 O9 Try.f9 rstepZ
      by_cases hc : z.tmod 2 = 1
      · simp [h3, h5, hlt, hc, hw, ho]
      · have hb : (z.tmod 2 == 1) = false := by simpa using hc
        simp [h3, h5, hlt, hc, hb, hw, ho]
    · rintro e s1 ⟨rfl, q1, q2, q3, q4, q5, q6, q7⟩
      exact ih (m + 1) s1 _ (by omega) (by omega) q1 q2 q5 fun s' r1 r2 r3 r4 r5 r6 => hQ s' r1 (by rw [r2, q3]) (by rw [r3, q4]) (by rw [r4, q6]) r5 (by rw [r6, q7])
def rfeedZ (s c : Int) : Int := iterR 8 (Go.bits .xor .u32 s (IntKind.u32.wrap c))
def rextZ (s : Int) (l : List Int) : Int := l.foldl rfeedZ s
theorem rextZ_nil (s : Int) : rextZ s [] = s := rfl
theorem rextZ_cons (s c : Int) (l : List Int) : rextZ s (c :: l) = rextZ (rfeedZ s c) l := by simp only [rextZ, List.foldl_cons]
theorem out9 (l : List Int) (hl : l.length < 140737488355328) (objs : List AO) {Q : Ex → St → Prop} : ∀ (k i : Nat) (s : St) (z : Int), i + k = l.length → s.env 0 = bytes l → s.env 4 = .int .i64 i → s.env 3 = .int .u32 z → s.objs = objs →
    (∀ s', s'.env 3 = .int .u32 (rextZ z (l.drop i)) → s'.toks = s.toks → s'.objs = objs → s'.low = s.low → Q (.exit 0) s') → To Try.prog A1 T10 9 objs.length (.loop O9) s Q := by
  intro k
  induction k with
  | zero =>
    intro i s z hi h0 h4 h3 ho hQ
    have hi : i = l.length := by omega
    refine To.loop (.run 10 ?_)
    unfold O9 Try.f9
    simp [h0, h4, h3, hi, bytes]
    apply hQ <;> simp [h3, hi, rextZ_nil, ho]
  | succ k ih =>
    intro i s z hi h0 h4 h3 ho hQ
    have hlt : i < l.length := by omega
    have hw := wrap_nat (i := i) (by omega)
    refine To.loop (To.mono (Q := fun e s1 => e = .norm ∧ (s1.env 0 = bytes l ∧ s1.env 4 = .int .i64 (i + 1 : Nat) ∧ s1.env 3 = .int .u32 (rfeedZ z (l[i]'hlt)) ∧ s1.objs = objs ∧ s1.toks = s.toks ∧ s1.low = s.low)) ?_ ?_)
    · unfold O9 Try.f9
      simp only [cA, cB]
      refine .seq (.run 6 ?_)
      simp [h0, h4, h3, hlt, bytes]
      refine .seq (.block (.seq (.run 4 ?_)))
      simp [h0, h4, h3, hlt, bytes, index_b, get_b]
      refine .seq (.run 4 ?_)
      simp
      refine .block (in9 objs 8 0 _ _ (by omega) (by omega) rfl rfl ho fun s' q1 q2 q3 q4 q5 q6 => ?_)
      simp only [Ex.leave, if_true, Ex.andThen_norm]
      refine .run 5 ?_
      simp [h4] at q3
      simp [h0] at q2
      simp at q1 q4 q6
      simp [q1, q2, q3, q4, q5, q6, hw, bytes, rfeedZ]
    · rintro e s1 ⟨rfl, q1, q2, q3, q4, q5, q6⟩
      refine ih (i + 1) s1 _ (by omega) q1 q2 q3 q4 fun s2 r1 r2 r3 r4 => hQ s2 ?_ (by rw [r2, q5]) r3 (by rw [r4, q6])
      rw [r1, List.drop_eq_getElem_cons hlt, rextZ_cons]
def rsumZ (l : List Int) : Int := Go.bits .xor .u32 (rextZ 4294967295 l) 4294967295
def c9 : Ab.Spec := fun args _ => match args with | [v] => (match ofB v with | some l => if l.length < 140737488355328 then some (.int .u32 (rsumZ l), none) else none | none => none) | _ => none
def T9 : CallF := withF T10 9 c9
theorem T9_ok : CallOk Try.prog T9 := con_of (A := A1) fit T10_ok (fn := Try.f9) (by kernel_rfl) (by kernel_rfl) (by
  intro args objs r h
  unfold c9 at h
  split at h
  case h_2 => cases h
  rename_i v
  split at h
  case h_2 => cases h
  rename_i l hv
  split at h <;> cases h
  rename_i hl
  rcases ofB_inv hv with rfl | ⟨rfl, rfl⟩
  · refine .to rfl (.seq (.run 5 ?_))
    simp
    refine .seq (.run 5 ?_)
    simp
    refine .seq (.seq (.run 5 ?_))
    simp
    refine .block (out9 l hl objs l.length 0 _ _ (by omega) rfl rfl rfl rfl fun s' q1 q2 q3 q4 => ?_)
    simp only [Ex.leave, if_true, Ex.andThen_norm]
    refine .run 5 ?_
    simp [q1, q2, q3, q4, Try.f9, rsumZ]
  · refine .run 12 ?_
    unfold runF Try.f9
    simp
    rfl)
/-! Copy -/
def tk (l : List Int) (i : Nat) : List V := (l.take i).map (.int .u8)
theorem tk_zero (l : List Int) : tk l 0 = [] := rfl
theorem tk_len {l : List Int} {i : Nat} (h : i ≤ l.length) : (tk l i).length = i := by simp [tk, h]
theorem tk_succ {l : List Int} {i : Nat} (h : i < l.length) : tk l i ++ [.int .u8 (l[i]'h)] = tk l (i + 1) := by
  unfold tk; rw [List.take_add_one, List.getElem?_eq_getElem h, Option.toList_some, List.map_append]; rfl
theorem tk_all (l : List Int) : tk l l.length = l.map (.int .u8) := by simp [tk]
theorem one_lit (c : Int) : listV Try.prog 22 1 [(0, .int .u8 c)] = some ([.int .u8 c], 1) := by
  simp [listV, fillV, zeros, setCells, cellsOf, isDef]
theorem no_lit : listV Try.prog 22 0 [] = some ([], 1) := by
  simp [listV, fillV, zeros]
noncomputable def O18 : Code := match Try.f18.body with | some c => cA (cA (cB (cA (cB (cB c))))) | none => .skip
theorem loop18 (l : List Int) (hl : l.length < 140737488355000) (objs : List AO) {Q : Ex → St → Prop} : ∀ (k i : Nat) (s : St), i + k = l.length → s.env 0 = bytes l → s.env 4 = .int .i64 i → s.env 3 = .lst (.tok 0 1) (tk l i) i → s.toks = [i] → s.objs = objs →
    (∀ s', s'.env 3 = .lst (.tok 0 1) (l.map (.int .u8)) l.length → s'.toks = [l.length] → s'.objs = objs → s'.low = s.low → Q (.exit 0) s') → To Try.prog A1 T9 18 objs.length (.loop O18) s Q := by
  intro k
  induction k with
  | zero =>
    intro i s hi h0 h4 h3 ht ho hQ
    have hi : i = l.length := by omega
    subst hi
    refine To.loop (.run 10 ?_)
    unfold O18 Try.f18
    simp [h0, h4, bytes]
    apply hQ <;> simp [h3, ho, ht, tk_all]
  | succ k ih =>
    intro i s hi h0 h4 h3 ht ho hQ
    have hlt : i < l.length := by omega
    have hw := wrap_nat (i := i) (by omega)
    have h5 := tk_len (l := l) (i := i) (by omega)
    have h6 := tk_succ hlt
    have h7 : i + 1 < 140737488355328 := by omega
    refine To.loop (To.mono (Q := fun e s1 => e = .norm ∧ (s1.env 0 = bytes l ∧ s1.env 4 = .int .i64 (i + 1 : Nat) ∧ s1.env 3 = .lst (.tok 0 1) (tk l (i + 1)) (i + 1) ∧ s1.toks = [i + 1] ∧ s1.objs = objs ∧ s1.low = s.low)) (.run 14 ?_) ?_)
    · unfold O18 Try.f18
      simp [h0, h4, h3, hlt, bytes, index_b, get_b, one_lit, ht, h5, h6, h7, hw, ho]
    · rintro e s1 ⟨rfl, q1, q2, q3, q4, q5, q6⟩
      refine ih (i + 1) s1 (by omega) q1 q2 q3 q4 q5 fun s2 r1 r2 r3 r4 => hQ s2 r1 r2 r3 (by rw [r4, q6])
def c18 : Ab.Spec := fun args _ => match args with | [v] => (match ofB v with | some l => if l.length < 140737488355000 then some (.lst (.fresh 1 false) (l.map (.int .u8)) l.length, none) else none | none => none) | _ => none
def T18 : CallF := withF T9 18 c18
theorem T18_ok : CallOk Try.prog T18 := con_of (A := A1) fit T9_ok (fn := Try.f18) (by kernel_rfl) (by kernel_rfl) (by
  intro args objs r h
  unfold c18 at h
  split at h
  case h_2 => cases h
  rename_i v
  split at h
  case h_2 => cases h
  rename_i l hv
  split at h <;> cases h
  rename_i hl
  rcases ofB_inv hv with rfl | ⟨rfl, rfl⟩
  · refine .to rfl (.seq (.run 5 ?_))
    simp
    refine .seq (.run 5 ?_)
    simp [no_lit]
    refine .seq (.seq (.run 5 ?_))
    simp
    refine .block (loop18 l hl objs l.length 0 _ (by omega) rfl rfl rfl rfl rfl fun s' q1 q2 q3 q4 => ?_)
    simp only [Ex.leave, if_true, Ex.andThen_norm]
    refine .run 5 ?_
    have hn : ∀ b, norefs b (l.map (.int .u8)) = true := fun b => norefs_iff.2 (by simp [Ab.noref])
    simp [q1, q2, q3, q4, Try.f18, hn]
  · refine .run 12 ?_
    unfold runF Try.f18
    simp [no_lit, norefs])
theorem conv35 (k : IntKind) (n : Int) : convV Try.prog 3 5 (.int k n) = some (.int .u8 (IntKind.u8.wrap n)) := by simp [convV]
def mk (i : Int) : Int := IntKind.u8.wrap (IntKind.i64.wrap (192 + i.tmod 7))
def wide (l : List Int) (n : Nat) : List Int := l ++ (List.range n).map fun i : Nat => mk i
def wk (l : List Int) (n : Nat) : List V := (wide l n).map (.int .u8)
theorem wide_len (l : List Int) (n : Nat) : (wide l n).length = l.length + n := by simp [wide]
theorem wk_len (l : List Int) (n : Nat) : (wk l n).length = l.length + n := by simp [wk, wide_len]
theorem wk_zero (l : List Int) : wk l 0 = l.map (.int .u8) := by simp [wk, wide]
theorem wk_succ (l : List Int) (n : Nat) : wk l n ++ [.int .u8 (IntKind.u8.wrap (IntKind.i64.wrap (192 + (n : Int).tmod 7)))] = wk l (n + 1) := by
  unfold wk wide
  rw [List.range_succ, List.map_append (l₁ := List.range n), ← List.append_assoc, List.map_append (l₂ := [n].map _)]
  rfl
theorem wk_refs (l : List Int) (n b : Nat) : norefs b (wk l n) = true := norefs_iff.2 (by simp [wk, Ab.noref])
noncomputable def O8 : Code := match Try.f8.body with | some c => cA (cA (cB (cA (cB (cB c))))) | none => .skip
theorem loop8 (l : List Int) (hl : l.length < 140737488355000) (objs : List AO) {Q : Ex → St → Prop} : ∀ (k i : Nat) (s : St), i + k = 64 → s.env 4 = .int .i64 i → s.env 3 = .lst (.tok 0 1) (wk l i) (l.length + i) → s.toks = [l.length + i] → s.objs = objs →
    (∀ s', s'.env 3 = .lst (.tok 0 1) (wk l 64) (l.length + 64) → s'.toks = [l.length + 64] → s'.objs = objs → s'.low = s.low → Q (.exit 0) s') → To Try.prog A1 T18 8 objs.length (.loop O8) s Q := by
  intro k
  induction k with
  | zero =>
    intro i s hi h4 h3 ht ho hQ
    have hi : i = 64 := by omega
    subst hi
    refine To.loop (.run 10 ?_)
    unfold O8 Try.f8
    simp [h4]
    apply hQ <;> simp [h3, ho, ht]
  | succ k ih =>
    intro i s hi h4 h3 ht ho hQ
    have hlt : (i : Int) < 64 := by omega
    have hw := wrap_nat (i := i) (by omega)
    have h5 := wk_len l i
    have h6 := wk_succ l i
    have h7 : l.length + i + 1 < 140737488355328 := by omega
    refine To.loop (To.mono (Q := fun e s1 => e = .norm ∧ (s1.env 4 = .int .i64 (i + 1 : Nat) ∧ s1.env 3 = .lst (.tok 0 1) (wk l (i + 1)) (l.length + (i + 1)) ∧ s1.toks = [l.length + (i + 1)] ∧ s1.objs = objs ∧ s1.low = s.low)) (.run 14 ?_) ?_)
    · unfold O8 Try.f8
      simp [h4, h3, hlt, one_lit, ht, h5, h6, h7, hw, ho, conv35]
      omega
    · rintro e s1 ⟨rfl, q2, q3, q4, q5, q6⟩
      refine ih (i + 1) s1 (by omega) q2 q3 q4 q5 fun s2 r1 r2 r3 r4 => hQ s2 r1 r2 r3 (by rw [r4, q6])
def c8 : Ab.Spec := fun args _ => match args with | [v] => (match ofB v with | some l => if l.length < 140737488355000 then some (.lst (.fresh 1 false) (wk l 64) (l.length + 64), none) else none | none => none) | _ => none
def T8 : CallF := withF T18 8 c8
theorem T18_18 (v : V) (l : List Int) (objs : List AO) (h : ofB v = some l) (hl : l.length < 140737488355000) : T18 18 [v] objs = some (.lst (.fresh 1 false) (l.map (.int .u8)) l.length, none) := by
  show c18 [v] objs = _
  simp [c18, h, hl]
theorem T8_ok : CallOk Try.prog T8 := con_of (A := A1) fit T18_ok (fn := Try.f8) (by kernel_rfl) (by kernel_rfl) (by
  intro args objs r h
  unfold c8 at h
  split at h
  case h_2 => cases h
  rename_i v
  split at h
  case h_2 => cases h
  rename_i l hv
  split at h <;> cases h
  rename_i hl
  have h1 := fun objs => T18_18 v l objs hv hl
  have h2 : demote v = v := by rcases ofB_inv hv with rfl | ⟨rfl, rfl⟩ <;> rfl
  refine .to rfl (.seq (.run 5 ?_))
  simp
  refine .seq (.run 5 ?_)
  simp [-demote, h2, h1]
  refine .seq (.seq (.run 5 ?_))
  simp
  refine .block (loop8 l hl objs 64 0 _ (by omega) rfl (by simp [wk_zero]) rfl rfl fun s' q1 q2 q3 q4 => ?_)
  simp only [Ex.leave, if_true, Ex.andThen_norm]
  refine .run 5 ?_
  simp [q1, q2, q3, q4, Try.f8, wk_refs, wk_len])
theorem wide_low {l : List Int} {n i : Nat} (h : i < l.length) (h' : i < (wide l n).length) : (wide l n)[i]'h' = l[i]'h := List.getElem_append_left h
theorem wide_high {l : List Int} {n i : Nat} (h : i < n) (h' : l.length + i < (wide l n).length) : (wide l n)[l.length + i]'h' = IntKind.u8.wrap (IntKind.i64.wrap (192 + (i : Int).tmod 7)) := by
  have h2 : (wide l n)[l.length + i]? = some (mk i) := by
    unfold wide
    rw [List.getElem?_append_right (by omega), List.getElem?_map, Nat.add_sub_cancel_left, List.getElem?_range h]; rfl
  rw [List.getElem?_eq_getElem h'] at h2
  exact Option.some.inj h2
noncomputable def O12 : Code := match Try.f12.body with | some c => cA (cA (cB (cA (cB (cB c))))) | none => .skip
noncomputable def P12 : Code := match Try.f12.body with | some c => cA (cA (cB (cA (cB (cB (cB c)))))) | none => .skip
theorem loop12 (l : List Int) (v : V) (hv : v = bytes l ∨ (v = .nils ∧ l = [])) (hl : l.length < 140737488355000) (objs : List AO) {Q : Ex → St → Prop} : ∀ (k i : Nat) (s : St), i + k = l.length → s.env 0 = bytes (wide l 64) → s.env 1 = v → s.env 5 = .int .i64 i → s.objs = objs →
    (∀ s', s'.env 0 = bytes (wide l 64) → s'.env 1 = v → s'.toks = s.toks → s'.objs = objs → s'.low = s.low → Q (.exit 0) s') → To Try.prog A1 T8 12 objs.length (.loop O12) s Q := by
  intro k
  induction k with
  | zero =>
    intro i s hi h0 h1 h5 ho hQ
    have hi : i = l.length := by omega
    subst hi
    refine To.loop (.run 10 ?_)
    unfold O12 Try.f12
    rcases hv with rfl | ⟨rfl, rfl⟩
    · simp [h1, h5, bytes]
      apply hQ <;> simp [h0, h1, ho, bytes]
    · simp [h1, h5]
      apply hQ <;> simp [h0, h1, ho]
  | succ k ih =>
    intro i s hi h0 h1 h5 ho hQ
    have hlt : i < l.length := by omega
    rcases hv with rfl | ⟨rfl, rfl⟩
    case inr => simp at hlt
    have hw := wrap_nat (i := i) (by omega)
    have hlt2 : i < l.length + 64 := by omega
    have hlt4 : i < (wide l 64).length := by rw [wide_len]; omega
    have hlt3 : (i : Int) < ((l.length + 64 : Nat) : Int) := by omega
    refine To.loop (To.mono (Q := fun e s1 => e = .norm ∧ (s1.env 0 = bytes (wide l 64) ∧ s1.env 1 = bytes l ∧ s1.env 5 = .int .i64 (i + 1 : Nat) ∧ s1.toks = s.toks ∧ s1.objs = objs ∧ s1.low = s.low)) (.run 14 ?_) ?_)
    · unfold O12 Try.f12
      have hg := wide_low (n := 64) hlt hlt4
      have hi1 := index_b (l := (wide l 64).map (.int .u8)) (k := .frozen) (n := (wide l 64).length) (i := (i : Int)) (by omega) (by omega)
      have hi2 := index_b (l := l.map (.int .u8)) (k := .frozen) (n := l.length) (i := (i : Int)) (by omega) (by omega)
      have hg1 := get_b hlt4
      have hg2 := get_b hlt
      rw [hg] at hg1
      simp only [Int.toNat_natCast] at hi1 hi2
      simp [h0, h1, h5, hlt, bytes, hi1, hi2, hg1, hg2, hw, ho]
    · rintro e s1 ⟨rfl, q1, q2, q3, q4, q5, q6⟩
      exact ih (i + 1) s1 (by omega) q1 q2 q3 q5 fun s2 r1 r2 r3 r4 r5 => hQ s2 r1 r2 (by rw [r3, q4]) r4 (by rw [r5, q6])
theorem loop12b (l : List Int) (v : V) (hv : v = bytes l ∨ (v = .nils ∧ l = [])) (hl : l.length < 140737488355000) (objs : List AO) {Q : Ex → St → Prop} : ∀ (k i : Nat) (s : St), i + k = 64 → s.env 0 = bytes (wide l 64) → s.env 1 = v → s.env 6 = .int .i64 i → s.objs = objs →
    (∀ s', s'.toks = s.toks → s'.objs = objs → s'.low = s.low → Q (.exit 2) s') → To Try.prog A1 T8 12 objs.length (.loop P12) s Q := by
  intro k
  induction k with
  | zero =>
    intro i s hi h0 h1 h5 ho hQ
    have hi : i = 64 := by omega
    subst hi
    refine To.loop (.run 10 ?_)
    unfold P12 Try.f12
    simp [h5]
    apply hQ <;> simp [ho]
  | succ k ih =>
    intro i s hi h0 h1 h5 ho hQ
    have hlt : (i : Int) < 64 := by omega
    have hw := wrap_nat (i := i) (by omega)
    have hw2 : IntKind.i64.wrap ((l.length : Int) + i) = (l.length : Int) + i := wrap_small (by omega) (by omega)
    have hw3 : IntKind.i64.wrap (i : Int) = (i : Int) := wrap_small (by omega) (by omega)
    have hlt4 : l.length + i < (wide l 64).length := by rw [wide_len]; omega
    have hg := wide_high (l := l) (n := 64) (i := i) (by omega) hlt4
    have hi2 := index_b (l := (wide l 64).map (.int .u8)) (k := .frozen) (n := (wide l 64).length) (i := (l.length : Int) + i) (by omega) (by omega)
    rw [show ((l.length : Int) + i).toNat = l.length + i by omega] at hi2
    have hg2 := get_b (l := wide l 64) hlt4
    rw [hg] at hg2
    refine To.loop (To.mono (Q := fun e s1 => e = .norm ∧ (s1.env 0 = bytes (wide l 64) ∧ s1.env 1 = v ∧ s1.env 6 = .int .i64 (i + 1 : Nat) ∧ s1.toks = s.toks ∧ s1.objs = objs ∧ s1.low = s.low)) (.run 14 ?_) ?_)
    · unfold P12 Try.f12
      rcases hv with rfl | ⟨rfl, rfl⟩
      · simp [h0, h1, h5, hlt, bytes, hi2, hg2, hw2, conv35, hw, ho]
      · simp only [List.length_nil, Nat.zero_add, Int.natCast_zero, Int.zero_add] at hi2 hg2
        simp [h0, h1, h5, hlt, bytes, hi2, hg2, hw3, conv35, hw, ho]
    · rintro e s1 ⟨rfl, q1, q2, q3, q4, q5, q6⟩
      exact ih (i + 1) s1 (by omega) q1 q2 q3 q5 fun s2 r3 r4 r5 => hQ s2 (by rw [r3, q4]) r4 (by rw [r5, q6])
def c12 : Ab.Spec := fun args _ => match args with | [w, v] => (match ofB w, ofB v with | some x, some l => if x = wide l 64 ∧ l.length < 140737488355000 then some (.bool true, none) else none | _, _ => none) | _ => none
def T12 : CallF := withF T8 12 c12
theorem T12_ok : CallOk Try.prog T12 := con_of (A := A1) fit T8_ok (fn := Try.f12) (by kernel_rfl) (by kernel_rfl) (by
  intro args objs r h
  unfold c12 at h
  split at h
  case h_2 => cases h
  rename_i w v
  split at h
  case h_2 => cases h
  rename_i x l hw hv
  split at h <;> cases h
  rename_i hl
  obtain ⟨rfl, hl⟩ := hl
  have hv' := ofB_inv hv
  have hw' : w = bytes (wide l 64) := by
    rcases ofB_inv hw with rfl | ⟨rfl, h2⟩
    · rfl
    · have := congrArg List.length h2; rw [wide_len] at this; simp at this
  subst hw'
  have hq : ((l.length : Int) + 64) = ((wide l 64).length : Int) := by rw [wide_len]; omega
  have hw2 : IntKind.i64.wrap ((l.length : Int) + 64) = ((wide l 64).length : Int) := by rw [wrap_small (by omega) (by omega), hq]
  have hw3 : l = [] → IntKind.i64.wrap (64 : Int) = ((wide l 64).length : Int) := by rintro rfl; exact hw2
  refine .to rfl (.seq (.run 5 ?_))
  simp
  refine .seq (.run 8 ?_)
  have start : entryEnv [bytes (wide l 64), v] 0 = bytes (wide l 64) := rfl
  rcases hv' with rfl | ⟨rfl, rfl⟩
  · simp [bytes, hw2]
    refine .seq (.seq (.run 5 ?_))
    simp
    refine .block (loop12 l (bytes l) (.inl rfl) hl objs l.length 0 _ (by omega) rfl rfl rfl rfl fun s' q0 q1 q2 q3 q4 => ?_)
    simp only [Ex.leave, if_true, Ex.andThen_norm]
    refine .seq (.seq (.run 5 ?_))
    simp
    refine .block (loop12b l (bytes l) (.inl rfl) hl objs 64 0 _ (by omega) (by simpa using q0) (by simpa using q1) rfl (by simpa using q3) fun s2 r2 r3 r4 => ?_)
    simp only [Ex.leave, if_true, Ex.andThen_norm]
    refine .run 5 ?_
    simp [r2, r3, r4, q2, q3, q4, Try.f12]
  · simp [bytes, hw3]
    refine .seq (.seq (.run 5 ?_))
    simp
    refine .block (loop12 [] .nils (.inr ⟨rfl, rfl⟩) hl objs 0 0 _ (by simp) rfl rfl rfl rfl fun s' q0 q1 q2 q3 q4 => ?_)
    simp only [Ex.leave, if_true, Ex.andThen_norm]
    refine .seq (.seq (.run 5 ?_))
    simp
    refine .block (loop12b [] .nils (.inr ⟨rfl, rfl⟩) hl objs 64 0 _ (by omega) (by simpa using q0) (by simpa using q1) rfl (by simpa using q3) fun s2 r2 r3 r4 => ?_)
    simp only [Ex.leave, if_true, Ex.andThen_norm]
    refine .run 5 ?_
    simp [r2, r3, r4, q2, q3, q4, Try.f12])
theorem alive_run : runF Try.prog A1 (callA Try.prog A1 (fun _ => none) 200) 60 7 Try.f7 [] [] = some (.bool true, none) := by kernel_rfl
def R32 (s : Int) : Prop := 0 ≤ s ∧ s < 4294967296
theorem xor_r (a b : Int) : R32 (Go.bits .xor .u32 a b) := by
  have h := Go.bits_within .xor .u32 a b
  have h1 : IntKind.u32.min = 0 := rfl
  have h2 : IntKind.u32.max = 4294967295 := rfl
  rw [h1, h2] at h
  exact ⟨h.1, by omega⟩
theorem wrap32 {n : Int} (h0 : 0 ≤ n) (h1 : n < 4294967296) : IntKind.u32.wrap n = n := by
  show (if (false && decide (n % 4294967296 ≥ 2147483648)) then n % 4294967296 - 4294967296 else n % 4294967296) = n
  rw [if_neg (by simp)]
  exact Int.emod_eq_of_lt h0 h1
theorem step_eq {s : Int} (h : R32 s) : rstepZ s = stepZ s ∧ R32 (stepZ s) := by
  obtain ⟨h0, h1⟩ := h
  have e1 : s.fdiv 2 = s / 2 := by rw [Int.fdiv_eq_ediv_of_nonneg _ (by omega)]
  have e2 : s.tdiv 2 = s / 2 := Int.tdiv_eq_ediv_of_nonneg h0
  have e3 : s.tmod 2 = s % 2 := Int.tmod_eq_emod_of_nonneg h0
  have e4 : Go.bits .and .u32 s 1 = s % 2 := by
    rw [Go.u32_and s 1 h0 h1 (by omega) (by omega)]
    have : s.toNat &&& (1 : Int).toNat = s.toNat % 2 := Nat.and_one_is_mod _
    rw [this]; omega
  have e5 : IntKind.u32.wrap (s / 2) = s / 2 := wrap32 (by omega) (by omega)
  unfold rstepZ stepZ
  rw [e1, e2, e3, e4, e5]
  have : s % 2 = 0 ∨ s % 2 = 1 := by omega
  rcases this with h | h
  · rw [if_neg (by omega), if_pos h]; exact ⟨rfl, by omega, by omega⟩
  · rw [if_pos h, if_neg (by omega)]; exact ⟨rfl, xor_r _ _⟩
def itS : Nat → Int → Int | 0, z => z | n + 1, z => itS n (stepZ z)
theorem it_eq : ∀ (n : Nat) {z : Int}, R32 z → iterR n z = itS n z ∧ R32 (itS n z)
  | 0, z, h => ⟨by simp only [iterR, itS], by simpa only [itS] using h⟩
  | n + 1, z, h => by
    obtain ⟨a, b⟩ := step_eq h
    simp only [iterR, itS, a]
    exact it_eq n b
theorem feed_it (s c : Int) : feedZ s c = itS 8 (Go.bits .xor .u32 s (IntKind.u32.wrap c)) := by simp only [feedZ, itS]
theorem feed_eq (s c : Int) : rfeedZ s c = feedZ s c ∧ R32 (feedZ s c) := by
  rw [feed_it]; unfold rfeedZ
  exact it_eq 8 (xor_r _ _)
theorem ext_eq : ∀ (l : List Int) {s : Int}, R32 s → rextZ s l = extZ s l ∧ R32 (extZ s l)
  | [], s, h => ⟨rfl, h⟩
  | c :: l, s, h => by
    obtain ⟨a, b⟩ := feed_eq s c
    rw [rextZ_cons, a]
    simp only [extZ]
    exact ext_eq l b
theorem ext_app (a b : List Int) : ∀ s : Int, extZ s (a ++ b) = extZ (extZ s a) b := by
  induction a with
  | nil => intro s; rfl
  | cons c a ih => intro s; simp only [List.cons_append, extZ, ih]
theorem not_eq {s : Int} (h : R32 s) : notZ s = 4294967295 - s ∧ R32 (notZ s) := by
  refine ⟨?_, xor_r _ _⟩
  unfold notZ
  have h2 : IntKind.u32.max = 4294967295 := rfl
  rw [h2, Go.u32_xor _ _ (by omega) (by omega) h.1 h.2]
  have e : (4294967295 : Int).toNat = 2 ^ 32 - 1 := rfl
  have hb := BitVec.toNat_not (x := BitVec.ofNat 32 s.toNat)
  have h1 := h.1; have h3 := h.2
  rw [← BitVec.xor_allOnes, BitVec.toNat_xor, BitVec.toNat_allOnes, BitVec.toNat_ofNat, Nat.mod_eq_of_lt (by omega)] at hb
  rw [e, Nat.xor_comm, hb]
  have := h.1; have := h.2
  omega
theorem not_not {s : Int} (h : R32 s) : notZ (notZ s) = s := by
  obtain ⟨a, b⟩ := not_eq h
  rw [(not_eq b).1, a]; omega
theorem not0 : notZ 0 = 4294967295 := by rw [(not_eq ⟨by omega, by omega⟩).1]; rfl
theorem extend_app {s : Int} (h : R32 s) (a b : List Int) : extendZ (extendZ s a) b = extendZ s (a ++ b) := by
  unfold extendZ
  rw [not_not (ext_eq a (not_eq h).2).2, ext_app]
theorem extend_r (s : Int) (l : List Int) : R32 (extendZ s l) := xor_r _ _
theorem extend_nil {s : Int} (h : R32 s) : extendZ s [] = s := by unfold extendZ; simp only [extZ]; exact not_not h
theorem rsum_eq (l : List Int) : rsumZ l = extendZ 0 l := by
  unfold rsumZ extendZ
  rw [not0, (ext_eq l (s := 4294967295) ⟨by omega, by omega⟩).1]
  have hr := (ext_eq l (s := 4294967295) ⟨by omega, by omega⟩).2
  unfold notZ
  have h2 : IntKind.u32.max = 4294967295 := rfl
  rw [h2, Go.u32_xor _ _ hr.1 hr.2 (by omega) (by omega), Go.u32_xor _ _ (by omega) (by omega) hr.1 hr.2, Nat.xor_comm]
theorem law_ok (l : List Int) (c : Nat) (hc : c ≤ l.length) : sumZ 0 [l] = rsumZ l ∧ sumZ 0 [l.take c, [], l.drop c] = rsumZ l ∧ extendZ (sumZ 0 [l.take c]) (l.drop c) = rsumZ l := by
  have h0 : R32 0 := ⟨by omega, by omega⟩
  simp only [sumZ]
  rw [rsum_eq, extend_nil (extend_r _ _), extend_app h0, List.take_append_drop]
  exact ⟨rfl, rfl, rfl⟩
theorem demL (k : LK) (cs : List V) (n : Nat) : demote (.lst k cs n) = .lst .frozen cs n := rfl
theorem demB (b : Bool) : demote (.bool b) = .bool b := rfl
theorem demN : demote .nils = .nils := rfl
theorem xok : XOk Try.prog (fun _ => none) := fun _ _ _ _ _ _ _ _ h => by cases h
def c7 : Ab.Spec := fun args objs => match args, objs with | [], [] => some (.bool true, none) | _, _ => none
def T7 : CallF := withF T12 7 c7
theorem T7_ok : CallOk Try.prog T7 := con_by (A := A1) fit T12_ok (callA_ok (A := A1) fit xok 200) (fn := Try.f7) (by kernel_rfl) (by kernel_rfl) (by
  intro args objs r h
  unfold c7 at h
  split at h <;> cases h
  exact .run 60 alive_run)
/-! slices of what stands -/
theorem ofBs_take (l : List Int) (n : Nat) : ofBs ((l.map (.int .u8)).take n) = some (l.take n) := by rw [← List.map_take, ofBs_map]
theorem cut_b {l : List Int} {lo hi : Nat} (h : lo ≤ hi) (h2 : hi ≤ l.length) (v : V) (hv : v = .lst .frozen (((l.map (.int .u8)).take hi).drop lo) (hi - lo)) : ofB v = some ((l.take hi).drop lo) := by
  subst hv
  rw [← List.map_take, ← List.map_drop]
  show (ofBs _).bind _ = _
  rw [ofBs_map]
  simp
  omega
theorem T7_8 (v : V) (l : List Int) (h : ofB v = some l) (hl : l.length < 140737488355000) : T7 8 [v] [] = some (.lst (.fresh 1 false) (wk l 64) (l.length + 64), none) := by
  show c8 [v] [] = _
  simp [c8, h, hl]
theorem T7_9 (v : V) (l : List Int) (h : ofB v = some l) (hl : l.length < 140737488355328) : T7 9 [v] [] = some (.int .u32 (rsumZ l), none) := by
  show c9 [v] [] = _
  simp [c9, h, hl]
theorem T7_10 (vs : List V) (ls : List (List Int)) (n : Nat) (h : ofP vs = some ls) (hn : n = vs.length) (hl : vs.length < 140737488355328) (hls : ∀ l ∈ ls, l.length < 140737488355328) : T7 10 [.lst .frozen vs n] [] = some (.int .u32 (sumZ 0 ls), none) := by
  show c10 [.lst .frozen vs n] [] = _
  simp only [c10, h]
  rw [if_pos ⟨hn, hl, by simpa using hls⟩]
theorem T7_11 (s : Int) (v : V) (l : List Int) (h : ofB v = some l) (hl : l.length < 140737488355328) : T7 11 [.int .u32 s, v] [] = some (.int .u32 (extendZ s l), none) := by
  show c11 [.int .u32 s, v] [] = _
  simp [c11, h, hl]
theorem T7_12 (w v : V) (l : List Int) (h : ofB v = some l) (hw : ofB w = some (wide l 64)) (hl : l.length < 140737488355000) : T7 12 [w, v] [] = some (.bool true, none) := by
  show c12 [w, v] [] = _
  simp [c12, h, hw, hl]
theorem T7_7 : T7 7 [] [] = some (.bool true, none) := rfl
theorem wk_take (l : List Int) (n h : Nat) (hh : h ≤ l.length) : (wk l n).take h = (l.take h).map (.int .u8) := by
  unfold wk wide
  rw [← List.map_take, List.take_append_of_le_length hh]
theorem sl_hi (l : List Int) (k : LK) (c : Nat) (hc : c ≤ l.length) : sliceV Try.prog 22 (.lst k (wk l 64) (l.length + 64)) none (some (.int .i64 (c : Int))) none = some (bytes (l.take c)) := by
  have h : c ≤ l.length + 64 := by omega
  simp [sliceV, boundV, h, wk_take l 64 c hc, bytes, hc]
theorem sl_lo (l : List Int) (k : LK) (c : Nat) (hc : c ≤ l.length) : sliceV Try.prog 22 (.lst k (wk l 64) (l.length + 64)) (some (.int .i64 (c : Int))) (some (.int .i64 (l.length : Int))) none = some (bytes (l.drop c)) := by
  simp [sliceV, boundV, hc, wk_take l 64 l.length (Nat.le_refl _), bytes]
theorem dem_bytes (l : List Int) : demote (bytes l) = bytes l := rfl
theorem lit_1 (l : List Int) : listV Try.prog 36 1 [(0, bytes l)] = some ([bytes l], 1) := by
  have h1 : isDef (bytes l) = true := rfl
  have h2 : cellsOf (bytes l) = [bytes l] := rfl
  simp [listV, fillV, zeros, setCells, h1, h2]
theorem lit_3 (l m : List Int) : listV Try.prog 36 3 [(0, bytes l), (1, .nils), (2, bytes m)] = some ([bytes l, .nils, bytes m], 1) := by
  have h1 : ∀ l, isDef (bytes l) = true := fun _ => rfl
  have h2 : ∀ l, cellsOf (bytes l) = [bytes l] := fun _ => rfl
  have h3 : isDef V.nils = true := rfl
  have h4 : cellsOf V.nils = [V.nils] := rfl
  simp [listV, fillV, zeros, setCells, h1, h2, h3, h4, List.replicate]
def LawOk (l : List Int) : Prop := ∀ c : Nat, c ≤ l.length → sumZ 0 [l] = rsumZ l ∧ sumZ 0 [l.take c, [], l.drop c] = rsumZ l ∧ extendZ (sumZ 0 [l.take c]) (l.drop c) = rsumZ l
theorem part_lit (p : V) (hp : isDef p = true) (h1 : cellsOf p = [p]) : listV Try.prog 36 1 [(0, p)] = some ([p], 1) := by
  simp [listV, fillV, zeros, setCells, hp, h1]
theorem law_in (l : List Int) (v : V) (cut : Int) (hv : ofB v = some l) (hl : l.length < 140737488355000) (hlaw : LawOk l) : Go.Ab.Ends Try.prog A1 T7 3 Try.f3 [v, .int .i64 cut] [] (.bool true, none) := by
  have e7 := T7_7
  have e8 := T7_8 v l hv hl
  have e9 := T7_9 v l hv (by omega)
  have hd : demote v = v := by rcases ofB_inv hv with rfl | ⟨rfl, rfl⟩ <;> rfl
  obtain ⟨c, hc, hcut⟩ : ∃ c : Nat, c ≤ l.length ∧ (if cut < 0 ∨ cut > l.length then (l.length : Int) else cut) = c := by
    by_cases h : cut < 0 ∨ cut > l.length
    · exact ⟨l.length, Nat.le_refl _, by rw [if_pos h]⟩
    · exact ⟨cut.toNat, by omega, by rw [if_neg h]; omega⟩
  refine .to rfl (.seq (.run 5 ?_))
  simp
  refine .seq (.seq (.run 5 ?_))
  simp -implicitDefEqProofs [-demote, demL, demI, demB, demN, e7]
  refine .run 5 ?_
  simp
  refine .seq (.seq (.mono (.run 12 (Q := fun e s1 => e = .norm ∧ s1.toks = [] ∧ s1.objs = [] ∧ s1.low = 0 ∧ s1.env 0 = v ∧ ((s1.env 16 = .bool true ∧ (cut < 0 ∨ cut > l.length)) ∨ (s1.env 16 = .bool false ∧ ¬ (cut < 0 ∨ cut > l.length)) ) ∧ s1.env 1 = .int .i64 cut) ?_) ?_))
  · by_cases h1 : cut < 0
    · simp -implicitDefEqProofs [-demote, demL, demI, demB, demN, h1]
    · by_cases h2 : cut > l.length
      · rcases ofB_inv hv with rfl | ⟨rfl, rfl⟩
        · simp -implicitDefEqProofs [-demote, demL, demI, demB, demN, h1, h2, bytes]
        · simp at h2; simp [h1, h2]
      · rcases ofB_inv hv with rfl | ⟨rfl, rfl⟩
        · simp -implicitDefEqProofs [-demote, demL, demI, demB, demN, h1, h2, bytes]
        · simp at h2; simp [h1, h2]
  · rintro e s1 ⟨rfl, t1, t2, t3, t4, t5, t6⟩
    -- where the text is cut
    refine .mono (.run 8 (Q := fun e s2 => e = .norm ∧ s2.toks = [] ∧ s2.objs = [] ∧ s2.low = 0 ∧ s2.env 0 = v ∧ s2.env 1 = .int .i64 c) ?_) ?_
    · rcases t5 with ⟨h1, h2⟩ | ⟨h1, h2⟩
      · rw [if_pos h2] at hcut
        rcases ofB_inv hv with rfl | ⟨rfl, rfl⟩
        · simp -implicitDefEqProofs [-demote, demL, demI, demB, demN, h1, t1, t2, t3, t4, bytes, hcut]
        · simp at hcut; simp [h1, t1, t2, t3, t4, hcut]
      · rw [if_neg h2] at hcut
        simp -implicitDefEqProofs [-demote, demL, demI, demB, demN, h1, t1, t2, t3, t4, t6, hcut]
    · rintro e s2 ⟨rfl, k1, k2, k3, k4, k5⟩
      simp only [Ex.andThen_norm]
      refine .seq (.run 5 ?_)
      simp -implicitDefEqProofs [-demote, demL, demI, demB, demN, k1, k2, k3, k4, k5, hd, e8]
      refine .seq (.run 5 ?_)
      simp -implicitDefEqProofs [-demote, demL, demI, demB, demN, k1, k2, k3, k4, k5, hd, e9]
      have w1 := sl_hi l .frozen l.length (Nat.le_refl _)
      rw [List.take_length] at w1
      have w2 := sl_hi l .frozen c hc
      have w3 := sl_lo l .frozen c hc
      obtain ⟨m1, m2, m3⟩ := hlaw c hc
      have y1 := T7_10 [bytes l] [l] 1 (by simp [ofP]) rfl (by simp) (by simp; omega)
      have y2 := T7_10 [bytes (l.take c), .nils, bytes (l.drop c)] [l.take c, [], l.drop c] 3 (by simp [ofP]) rfl (by simp) (by simp; omega)
      have y3 := T7_10 [bytes (l.take c)] [l.take c] 1 (by simp [ofP]) rfl (by simp) (by simp; omega)
      have y4 := fun s => T7_11 s (bytes (l.drop c)) (l.drop c) (by simp) (by simp; omega)
      rw [m1] at y1
      rw [m2] at y2
      have hW : ofB (.lst .frozen (wk l 64) (l.length + 64)) = some (wide l 64) := by
        have : V.lst .frozen (wk l 64) (l.length + 64) = bytes (wide l 64) := by rw [bytes, wide_len]; unfold wk; rfl
        rw [this, ofB_bytes]
      have y5 := T7_12 _ v l hv hW hl
      refine .seq (.seq (.mono (.run 12 (Q := fun e s3 => e = .norm ∧ s3.toks = [] ∧ s3.objs = [] ∧ s3.low = 0 ∧ s3.env 0 = v ∧ s3.env 1 = .int .i64 c ∧ s3.env 5 = .lst .frozen (wk l 64) (l.length + 64) ∧ s3.env 6 = .int .u32 (rsumZ l) ∧ s3.env 44 = .bool false) ?_) ?_))
      · rcases ofB_inv hv with rfl | ⟨rfl, rfl⟩
        · have k4' : s2.env 0 = .lst .frozen (l.map (.int .u8)) l.length := k4
          simp -implicitDefEqProofs [-demote, demL, demI, demB, demN, k1, k2, k3, k4', k5, w1, w2, w3, dem_bytes, lit_1, lit_3, y1, y2]
          rfl
        · obtain rfl : c = 0 := by simpa using hc
          simp only [List.length_nil, Nat.zero_add, Int.natCast_zero, List.take_nil, List.drop_nil] at w1 w2 w3 k5 y1 y2
          simp -implicitDefEqProofs [-demote, demL, demI, demB, demN, k1, k2, k3, k4, k5, w1, w2, w3, dem_bytes, lit_1, lit_3, y1, y2]
      · rintro e s3 ⟨rfl, p1, p2, p3, p4, p5, p6, p7, p8⟩
        simp only [Ex.andThen_norm]
        refine .run 5 ?_
        simp -implicitDefEqProofs [-demote, demL, demI, demB, demN, p8]
        refine .run 12 ?_
        rcases ofB_inv hv with rfl | ⟨rfl, rfl⟩
        · have p4' : s3.env 0 = .lst .frozen (l.map (.int .u8)) l.length := p4
          have y5' : T7 12 [.lst .frozen (wk l 64) (l.length + 64), .lst .frozen (l.map (.int .u8)) l.length] [] = some (.bool true, none) := y5
          simp -implicitDefEqProofs [-demote, demL, demI, demB, demN, p1, p2, p3, p4', p5, p6, p7, w2, w3, dem_bytes, lit_1, y3, y4, m3, y5', Try.f3]
        · obtain rfl : c = 0 := by simpa using hc
          simp only [List.length_nil, Nat.zero_add, Int.natCast_zero, List.take_nil, List.drop_nil] at w1 w2 w3 p5 y3 y4 y5 p6 m3
          simp -implicitDefEqProofs [-demote, demL, demI, demB, demN, p1, p2, p3, p4, p5, p6, p7, w2, w3, dem_bytes, lit_1, y3, y4, m3, y5, Try.f3]

def c3 : Ab.Spec := fun args objs => match args, objs with
  | [v, .int .i64 _], [] => (match ofB v with | some l => if l.length < 140737488355000 then some (.bool true, none) else none | none => none)
  | _, _ => none
def T3 : CallF := withF T7 3 c3
theorem T3_ok : CallOk Try.prog T3 := con_of (A := A1) fit T7_ok (fn := Try.f3) (by kernel_rfl) (by kernel_rfl) (by
  intro args objs r h
  unfold c3 at h
  split at h
  case h_2 => cases h
  rename_i v cut
  split at h
  case h_2 => cases h
  rename_i l hv
  split at h <;> cases h
  rename_i hl
  exact law_in l v cut hv hl (fun c hc => law_ok l c hc))
theorem cell_lt {w : World} {x : Addr} {i : Nat} {v : Value} (h : w.cell? (x.add i) = some v) : x.block < w.heap.size := by
  unfold World.cell? at h
  rw [Go.Ab.add_block] at h
  cases hq : w.heap[x.block]? with
  | none => rw [hq] at h; cases h
  | some o => exact Go.Ab.lt_of_get hq
/-- A slice of bytes that is handed in. -/
theorem bytes_in {W : World} {a : Option Addr} {len cap : Nat} {z : List Int} (w0 : (a = none ∧ len = 0 ∧ cap = 0 ∧ z = []) ∨ ∃ x, a = some x ∧ len ≤ cap ∧ cap ≤ Go.maxLen ∧ z.length = cap ∧ (∀ i, i < z.length → W.cell? (x.add i) = some (.int .u8 (z.getD i 0))) ∧ ∀ n ∈ z, (Lit.int .u8 n).wf = true) :
    ∃ v l, ofB v = some l ∧ l.length = len ∧ VR (Go.Ab.top W) W v (.slice a len cap) ∧ (∀ k cs n, v = .lst k cs n → k = .frozen) ∧ ∀ vs, v ≠ .tup vs := by
  rcases w0 with ⟨rfl, rfl, rfl, rfl⟩ | ⟨x, rfl, hl, hm, hz, hc, hw⟩
  · exact ⟨.nils, [], rfl, rfl, .nils, by simp, by simp⟩
  · have hlen : (z.take len).length = len := by rw [List.length_take]; omega
    refine ⟨bytes (z.take len), z.take len, by simp, hlen, ?_, by intro k cs n h; cases h; rfl, by intro vs h; cases h⟩
    unfold bytes
    rw [hlen]
    refine .lst (fun j => .int .u8 (z.getD j 0)) hl (fun j hj => ?_) (fun j hj => ?_) (fun j hj => ?_)
    · rw [List.length_map, hlen] at hj
      exact cell_lt (hc j (by omega))
    · rw [List.length_map, hlen] at hj
      exact hc j (by omega)
    · have hj' : j < len := by rw [List.length_map, hlen] at hj; exact hj
      rw [List.getElem_map, List.getElem_take, List.getD_eq_getElem?_getD, List.getElem?_eq_getElem (by omega), Option.getD_some]
      exact .int
theorem crcSums_walk (a0 : Option Addr) (len0 cap0 : Nat) (z0 : List Int) (a1 : Int) (W : World) (w0 : (a0 = none ∧ len0 = 0 ∧ cap0 = 0 ∧ z0 = []) ∨ ∃ x, a0 = some x ∧ len0 ≤ cap0 ∧ cap0 ≤ Go.maxLen ∧ z0.length = cap0 ∧ (∀ i, i < z0.length → W.cell? (x.add i) = some (.int .u8 (z0.getD i 0))) ∧ ∀ n ∈ z0, (Lit.int .u8 n).wf = true)
    (y0 : len0 * 1 ≤ 140737488351232) : Calls Try.prog 3 #[.slice a0 len0 cap0, .int .i64 a1] W fun e w' => e = .returned (.bool true) ∧ Go.RowKit.Below W.heap.size W w' := by
  obtain ⟨v, l, h1, h2, h3, h4, h5⟩ := bytes_in w0
  refine whole fit T3_ok (fn := Try.f3) (args := [v, .int .i64 a1]) (by kernel_rfl) (by kernel_rfl) ?_ ?_
  · show c3 [v, .int .i64 a1] [] = _
    simp only [c3, h1]
    rw [if_pos (by omega)]
  · exact .one h3 h4 h5 (.one .int (by simp) (by simp) trivial)
end Go.Proofs.Ytimgdniiidcjlaa.Crc

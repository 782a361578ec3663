import Derived.Test.YtdfcbophcfjakaaAb26
set_option linter.unusedSimpArgs false
set_option linter.unusedVariables false
set_option linter.unusedSectionVars false
/- The loop that appends behind a slice whose first cells are read afterwards. -/
namespace Go.Ab
/-- All slots but those of L are as they were. -/
def Kp (L : List Nat) (a a' : Act) : Prop := a'.tmps.size = a.tmps.size ∧ a'.defers = a.defers ∧ ∀ t, t ∉ L → a'.eval (.tmp t) = a.eval (.tmp t)
theorem Kp.refl (L : List Nat) (a : Act) : Kp L a a := ⟨rfl, rfl, fun _ _ => rfl⟩
theorem Kp.put {L : List Nat} {a a' : Act} {d : Nat} {c : Value} (h : Kp L a a') (hd : d ∈ L) : Kp L a (a'.put (some d) c) :=
  ⟨put_size.trans h.1, h.2.1, fun t ht => (put_other (fun q => ht (by rw [← q]; exact hd))).trans (h.2.2 t ht)⟩
/-- No truth value stands in the slots of L. -/
def NB (L : List Nat) (a : Act) : Prop := ∀ t, t ∈ L → ∀ b, a.eval (.tmp t) ≠ .bool b
theorem NB.nil (a : Act) : NB [] a := fun t h => by cases h
theorem NB.put {L : List Nat} {a : Act} {d : Nat} {c : Value} (h : NB L a) (hd : d < a.tmps.size) (hc : ∀ b, c ≠ .bool b) : NB (d :: L) (a.put (some d) c) := by
  intro t ht b
  by_cases e : d = t
  · subst e; rw [put_same hd]; exact hc b
  · rw [put_other e]
    rcases List.mem_cons.1 ht with q | q
    · exact absurd q.symm e
    · exact h t q b
theorem NB.keep {L : List Nat} {a : Act} {d : Nat} {c : Value} (h : NB L a) (hd : d ∉ L) : NB L (a.put (some d) c) := by
  intro t ht b
  rw [put_other (fun q => hd (by rw [q]; exact ht))]
  exact h t ht b
theorem NB.sub {L L' : List Nat} {a : Act} (h : NB L a) (hs : ∀ t, t ∈ L' → t ∈ L) : NB L' a := fun t ht => h t (hs t ht)
/-- The slots behind such a loop. -/
def grownEnv (L : List Nat) (g iv cnd n : Nat) (i : Int) (e : Nat → V) : Nat → V := fun t => if t = g then .lst .frozen [] n else if t = iv then .int .i64 i else if t = cnd then .bool false else if t ∈ L then .undef else e t
theorem grown_fin {n : Nat} {G0 G : Gh} {tl : Nat → Nat → Option (Nat × Nat)} {w0 w w2 : World} {objs0 : List AO} {bb : Nat} {s : St} {a a' : Act} {B : Option (Nat × Nat)} {L L1 : List Nat} {g iv cnd len cap : Nat} {ad : Addr} {i : Int}
    (hF : Fr n G0 w0 objs0 bb s a w G tl) (h : Grown w w2 B) (hB : Behind G s.objs B) (hK : Kp L a a') (hg : a'.eval (.tmp g) = .slice (some ad) len cap) (hlc : len ≤ cap) (hi : a'.eval (.tmp iv) = .int .i64 i) (hc : a'.eval (.tmp cnd) = .bool false)
    (hN : NB L1 a') (hL : ∀ t, t ∈ L → t ≠ g → t ≠ iv → t ≠ cnd → t ∈ L1) (hgL : g ∈ L) (hiL : iv ∈ L) (hcL : cnd ∈ L) :
    Fr n G0 w0 objs0 bb ⟨grownEnv L g iv cnd len i s.env, s.toks, s.objs, s.low⟩ a' w2 G tl := by
  refine hF.grown h hB (fun t => ?_) (by obtain ⟨-, hw⟩ := h.store hF.store hB; rw [hK.2.1]; exact hF.dfr.mono hw.oth) (by rw [hK.1]; exact hF.size) rfl rfl (Nat.le_refl _)
  obtain ⟨-, hw⟩ := h.store hF.store hB
  show VR G w2 (grownEnv L g iv cnd len i s.env t) (a'.eval (.tmp t)) ∧ TokT tl w0.heap.size w2 (grownEnv L g iv cnd len i s.env t) (a'.eval (.tmp t))
  unfold grownEnv
  by_cases h1 : t = g
  · subst h1; rw [if_pos rfl, hg]
    exact ⟨.lst (fun _ => Go.undef) hlc (fun j hj => by simp at hj) (fun j hj => by simp at hj) (fun j hj => by simp at hj), TokT.of (fun k cs len h => by cases h; rfl) (fun vs h => by cases h)⟩
  rw [if_neg h1]
  by_cases h2 : t = iv
  · subst h2; rw [if_pos rfl, hi]
    exact ⟨.int, TokT.of (fun k cs len h => by cases h) (fun vs h => by cases h)⟩
  rw [if_neg h2]
  by_cases h3 : t = cnd
  · subst h3; rw [if_pos rfl, hc]
    exact ⟨.bool, TokT.of (fun k cs len h => by cases h) (fun vs h => by cases h)⟩
  rw [if_neg h3]
  by_cases h4 : t ∈ L
  · rw [if_pos h4]
    exact ⟨.undef (hN t (hL t h4 h1 h2 h3)), TokT.of (fun k cs len h => by cases h) (fun vs h => by cases h)⟩
  rw [if_neg h4, hK.2.2 t h4]
  exact ⟨(hF.env t).1.mono (GLe.refl G) hw, (hF.env t).2.mono (TLe.refl tl w) hw⟩
/-- Something to append to: nil, or a whole object. -/
def Base (objs : List AO) (v : V) (n : Nat) : Prop := (v = .nils ∧ n = 0) ∨ ∃ id ver cs, v = .ref id ver 0 n 1 ∧ Ab.getObj objs id ver = some cs ∧ cs.length = n
theorem Base.at {n m : Nat} {G0 G : Gh} {tl : Nat → Nat → Option (Nat × Nat)} {w0 w : World} {objs0 : List AO} {bb : Nat} {s : St} {a : Act} {v : V} {c : Value} (h : Base s.objs v m) (hF : Fr n G0 w0 objs0 bb s a w G tl) (hv : VR G w v c) :
    ∃ B o, Behind G s.objs B ∧ Grown w w B ∧ (∀ b m, B = some (b, m) → b < w.heap.size) ∧ GAt w w B o m c := by
  rcases h with ⟨rfl, rfl⟩ | ⟨id, ver, cs, rfl, ho, hn⟩
  · cases hv
    exact ⟨none, 0, (fun b m h => by cases h), Grown.refl (fun b m h => by cases h), (fun b m h => by cases h), Or.inl ⟨rfl, none, rfl⟩⟩
  · unfold Ab.getObj at ho
    split at ho
    case h_2 => cases ho
    rename_i cs' v' hid
    split at ho
    case isFalse => cases ho
    rename_i hvv
    cases ho; subst hvv
    obtain ⟨b0, o0, arr0, el0, g1, g2, g3, g4⟩ := hF.store.cellsR id _ _ hid
    cases hv with
    | @ref _ _ _ _ _ b o cap p arr el fz hloc hl hp hb hs =>
      rw [hloc] at g1
      obtain ⟨rfl, rfl⟩ := Prod.mk.inj (Option.some.inj g1)
      have hlt : b < w.heap.size := by
        rcases Nat.lt_or_ge b w.heap.size with q | q
        · exact q
        · rw [Array.getElem?_eq_none q] at hb; cases hb
      have hb0 := g2.at_
      rw [hb] at hb0
      obtain ⟨rfl, rfl, rfl⟩ := Obj.cells.inj (Option.some.inj hb0)
      refine ⟨some (b, o + cs.length), o, fun b' m' hB => ?_, Grown.refl (fun b' m' hB => ?_), fun b' m' hB => ?_, ?_⟩
      · cases hB; exact ⟨id, cs, _, o, hid, hloc, rfl⟩
      · cases hB; exact ⟨arr, el, hb⟩
      · cases hB; exact hlt
      · rcases Nat.eq_zero_or_pos cap with q | q
        · subst q
          obtain rfl : m = 0 := by omega
          exact .inl ⟨rfl, _, rfl⟩
        · refine .inr ⟨b, p, cap, rfl, hl, .inl ⟨_, rfl, by have := hp q; omega, by omega, arr, el, hb, ?_⟩⟩
          have := hs q; omega
/-- What the loop's inner region does: one element more. -/
def BodyOk (P : Program) (R : Code) (X : Act → Prop) (N n g iv : Nat) (LB : List Nat) : Prop :=
  ∀ (nn : Nat) (a' : Act) (w1 w' : World) (BB : Option (Nat × Nat)) (o i : Nat) (c : Value) (Q : Exit → Act → World → Prop), codeOk nn R = true → nn ≤ a'.tmps.size → i < N → X a' → a'.eval (.tmp g) = c → a'.eval (.tmp iv) = .int .i64 i →
    Grown w1 w' BB → (∀ b m, BB = some (b, m) → b < w1.heap.size) → GAt w1 w' BB o (n + i) c →
    (∀ a'' w'' c', Kp LB a' a'' → NB LB a'' → Grown w1 w'' BB → GAt w1 w'' BB o (n + i + 1) c' → a''.eval (.tmp g) = c' → Q .normal a'' w'') → R.wp P Q a' w'
def leftOf (iv N : Nat) (a : Act) : Nat := N - (match a.eval (.tmp iv) with | .int _ i => i.toNat | _ => 0)
theorem leftOf_int {iv N i : Nat} {k : IntKind} {a : Act} (h : a.eval (.tmp iv) = .int k i) : leftOf iv N a = N - i := by unfold leftOf; rw [h]; simp
theorem grow_block {P : Program} {A : Ann} {T : CallF} {f : FuncId} {base : Nat} {s : St} {R : Code} {X : Act → Prop} {N n g iv x cnd y z b0 b1 i6 i7 : Nat} {LB : List Nat} {t1 t2 t3 t4 u1 u2 u3 u4 u5 : TypeId} {p1 p2 p3 p4 p5 : String} {f1 f2 f3 f4 f5 : Array Edge}
    (hN : 0 < N) (hN2 : N < 1000) (hbase : Base s.objs (s.env g) n) (hiv : s.env iv = .int .i64 0) (hX0 : ∀ G tl E w a, EnvR G tl E w s.env a → X a) (hX : ∀ a a', Kp (iv :: z :: y :: cnd :: x :: LB) a a' → X a → X a') (hR : BodyOk P R X N n g iv LB) (hg : g ∈ LB)
    (hd : [iv, z, y, cnd, x].Nodup) (hdis : ∀ t, t ∈ [iv, z, y, cnd, x] → t ∉ LB) :
    CutOk P A T f base (.block b0 (.loop (.seq (.seq (.region i6 #[⟨some x, .move (.tmp iv), u1, p1, f1, none⟩, ⟨some cnd, .binOp .lss t1 (.tmp x) (.const (.int .i64 N)) t2, u2, p2, f2, none⟩] false) (.cond (.tmp cnd) .skip (.exit b0)))
      (.seq (.block b1 R) (.region i7 #[⟨some y, .move (.tmp iv), u3, p3, f3, none⟩, ⟨some z, .binOp .add t3 (.tmp y) (.const (.int .i64 1)) t4, u4, p4, f4, none⟩, ⟨some iv, .assign (.tmp z), u5, p5, f5, none⟩] false))))) s
      (.norm, ⟨grownEnv (iv :: z :: y :: cnd :: x :: LB) g iv cnd (n + N) N s.env, s.toks, s.objs, s.low⟩) := by
  refine ⟨(fun _ h => by cases h), LowOk.refl .., fun nn G0 w0 objs0 a w Q hcode _ hIn hQ => ?_⟩
  obtain ⟨G, tl, hF⟩ := hIn
  obtain ⟨B, o, hB, hG0, hlt, hGA⟩ := hbase.at hF (by have := (hF.env g).1; exact this)
  have eiv : a.eval (.tmp iv) = .int .i64 0 := by have := (hF.env iv).1; rw [hiv] at this; exact this.int_inv
  have hXa := hX0 G tl _ w a hF.env
  simp only [codeOk, dstsOk, Bool.and_eq_true, List.all_cons, List.all_nil, decide_eq_true_eq, and_true] at hcode
  obtain ⟨⟨cx, cc⟩, cR, cy, cz, ci⟩ := hcode
  replace cx : x < nn := cx
  replace cc : cnd < nn := cc
  replace cy : y < nn := cy
  replace cz : z < nn := cz
  replace ci : iv < nn := ci
  have hsz := hF.size
  simp only [List.nodup_cons, List.mem_cons, List.not_mem_nil, or_false, not_or, List.nodup_nil, and_true, not_false_eq_true] at hd
  obtain ⟨⟨e1, e2, e3, e4⟩, ⟨e5, e6, e7⟩, ⟨e8, e9⟩, e10⟩ := hd
  have hgx : ∀ t, t ∈ [iv, z, y, cnd, x] → t ≠ g := fun t ht q => hdis t ht (by rw [q]; exact hg)
  let I : Act → World → Prop := fun a' w' => ∃ (i : Nat) (c : Value), i ≤ N ∧ Kp (iv :: z :: y :: cnd :: x :: LB) a a' ∧ (i = 0 ∨ NB (iv :: z :: y :: LB) a') ∧ Grown w w' B ∧ GAt w w' B o (n + i) c ∧ a'.eval (.tmp g) = c ∧ a'.eval (.tmp iv) = .int .i64 i
  refine wp_block (wp_loop I (fun a' _ => leftOf iv N a') ⟨0, _, by omega, Kp.refl _ _, .inl rfl, hG0, hGA, rfl, eiv⟩ ?_)
  rintro a1 w1 ⟨i, c, hi, hK, hnb, hGr, hGt, hge, hie⟩

  have hsz1 : nn ≤ a1.tmps.size := by rw [hK.1]; exact hsz
  refine wp_seq (wp_seq (wp_region ?_))
  show wpOps P _ _ [0, 1] a1 w1
  refine ops_at rfl rfl (wp_ran (ran_move (.inl rfl)) ?_)
  rw [hie]
  obtain ⟨r, r1, r2⟩ := ran_bin (P := P) (o := ⟨some cnd, .binOp .lss t1 (.tmp x) (.const (.int .i64 N)) t2, u2, p2, f2, none⟩) (a := a1.put (some x) (.int .i64 i)) (w := w1) rfl (put_same (by omega)) rfl (v := .bool (decide ((i : Int) < N))) rfl
  obtain rfl : r = .bool (decide ((i : Int) < N)) := by
    rcases r2 with ⟨_, _, q, _⟩ | ⟨b, q, rfl⟩ | ⟨_, q, _⟩
    · cases q
    · cases q; rfl
    · cases q
  refine ops_at rfl rfl (wp_ran r1 ?_)
  have hKx : Kp (iv :: z :: y :: cnd :: x :: LB) a ((a1.put (some x) (.int .i64 i)).put (some cnd) (.bool (decide ((i : Int) < N)))) := (hK.put (by simp)).put (by simp)
  have hcnd : ((a1.put (some x) (.int .i64 i)).put (some cnd) (.bool (decide ((i : Int) < N)))).eval (.tmp cnd) = .bool (decide ((i : Int) < N)) := put_same (by rw [put_size]; omega)
  have hge1 : ((a1.put (some x) (.int .i64 i)).put (some cnd) (.bool (decide ((i : Int) < N)))).eval (.tmp g) = c := by rw [put_other (hgx cnd (by simp)), put_other (hgx x (by simp)), hge]
  have hie1 : ((a1.put (some x) (.int .i64 i)).put (some cnd) (.bool (decide ((i : Int) < N)))).eval (.tmp iv) = .int .i64 i := by rw [put_other (Ne.symm e3), put_other (Ne.symm e4), hie]
  have hsz2 : nn ≤ ((a1.put (some x) (.int .i64 i)).put (some cnd) (.bool (decide ((i : Int) < N)))).tmps.size := by rw [put_size, put_size]; exact hsz1
  have hnb2 : i = 0 ∨ NB (x :: iv :: z :: y :: LB) ((a1.put (some x) (.int .i64 i)).put (some cnd) (.bool (decide ((i : Int) < N)))) := by
    refine hnb.imp_right fun h => ((h.put (by omega) (fun b => by simp)).keep ?_)
    intro hm
    rcases List.mem_cons.1 hm with q | q
    · exact e10 q
    rcases List.mem_cons.1 q with q | q
    · exact e3 q.symm
    rcases List.mem_cons.1 q with q | q
    · exact e6 q.symm
    rcases List.mem_cons.1 q with q | q
    · exact e8 q.symm
    · exact hdis cnd (by simp) q
  obtain ⟨a2, ha2⟩ : ∃ a2, a2 = (a1.put (some x) (.int .i64 i)).put (some cnd) (.bool (decide ((i : Int) < N))) := ⟨_, rfl⟩
  rw [← ha2] at hKx hcnd hge1 hie1 hsz2 hnb2
  show Exit.then _ _ .normal ((a1.put (some x) (.int .i64 i)).put (some cnd) (.bool (decide ((i : Int) < N)))) w1
  rw [← ha2]
  show Code.wp P _ _ a2 w1
  by_cases hlt2 : i < N
  · refine wp_cond_true (by rw [hcnd, decide_eq_true (by omega)]) (wp_skip ?_)
    show Code.wp P _ _ a2 w1
    refine wp_seq (wp_block (hR nn a2 w w1 B o i c _ cR hsz2 hlt2 (hX a a2 hKx hXa) hge1 hie1 hGr hlt hGt ?_))
    intro a3 w3 c3 k1 k2 k3 k4 k5
    show Code.wp P _ _ a3 w3
    have hie3 : a3.eval (.tmp iv) = .int .i64 i := by rw [k1.2.2 iv (hdis iv (by simp)), hie1]
    have hsz3 : nn ≤ a3.tmps.size := by rw [k1.1]; exact hsz2
    refine wp_region ?_
    show wpOps P _ _ [0, 1, 2] a3 w3
    refine ops_at rfl rfl (wp_ran (ran_move (.inl rfl)) ?_)
    rw [hie3]
    obtain ⟨r, r1, r2⟩ := ran_bin (P := P) (o := ⟨some z, .binOp .add t3 (.tmp y) (.const (.int .i64 1)) t4, u4, p4, f4, none⟩) (a := a3.put (some y) (.int .i64 i)) (w := w3) rfl (put_same (by omega)) rfl (v := .int .i64 (IntKind.i64.wrap ((i : Int) + 1))) rfl
    obtain rfl : r = .int .i64 (IntKind.i64.wrap ((i : Int) + 1)) := by
      rcases r2 with ⟨_, _, q, rfl⟩ | ⟨b, q, _⟩ | ⟨_, q, _⟩
      · cases q; rfl
      · cases q
      · cases q
    refine ops_at rfl rfl (wp_ran r1 ?_)
    refine ops_at rfl rfl (wp_ran (ran_move (.inr rfl)) ?_)
    have hzv : ((a3.put (some y) (.int .i64 i)).put (some z) (.int .i64 (IntKind.i64.wrap ((i : Int) + 1)))).eval (.tmp z) = .int .i64 ((i : Int) + 1) := by
      rw [put_same (by rw [put_size]; omega), wrap_small (by omega) (by omega)]
    have hw1 : IntKind.i64.wrap ((i : Int) + 1) = (i : Int) + 1 := wrap_small (by omega) (by omega)
    obtain ⟨a4, ha4⟩ : ∃ a4, a4 = (((a3.put (some y) (.int .i64 i)).put (some z) (.int .i64 (IntKind.i64.wrap ((i : Int) + 1)))).put (some iv) (((a3.put (some y) (.int .i64 i)).put (some z) (.int .i64 (IntKind.i64.wrap ((i : Int) + 1)))).eval (.tmp z))) := ⟨_, rfl⟩
    have hgo : I a4 w3 ∧ leftOf iv N a4 < leftOf iv N a1 := by
      rw [hzv, hw1] at ha4
      subst ha4
      have hie4 : (((a3.put (some y) (.int .i64 i)).put (some z) (.int .i64 ((i : Int) + 1))).put (some iv) (.int .i64 ((i : Int) + 1))).eval (.tmp iv) = .int .i64 ((i + 1 : Nat) : Int) := put_same (by rw [put_size, put_size]; omega)
      refine ⟨⟨i + 1, c3, hlt2, ?_, .inr ?_, k3, k4, ?_, hie4⟩, ?_⟩
      · refine Kp.put (Kp.put (Kp.put ⟨k1.1.trans hKx.1, k1.2.1.trans hKx.2.1, fun t ht => (k1.2.2 t (fun q => ht (by simp [q]))).trans (hKx.2.2 t ht)⟩ (by simp)) (by simp)) (by simp)
      · exact ((k2.put (by omega) (fun b => by simp)).put (by rw [put_size]; omega) (fun b => by simp)).put (by rw [put_size, put_size]; omega) (fun b => by simp)
      · rw [put_other (hgx iv (by simp)), put_other (hgx z (by simp)), put_other (hgx y (by simp)), k5]
      · rw [leftOf_int hie4, leftOf_int hie]; omega
    subst ha4
    exact hgo
  · obtain rfl : i = N := by omega
    refine wp_cond_false (by rw [hcnd, decide_eq_false (by omega)]) (wp_exit ?_)
    show Exit.inBlock b0 Q (.exit b0) a2 w1
    simp only [Exit.inBlock, if_true]
    have hnb3 := hnb2.resolve_left (by omega)
    refine hQ a2 w1 ⟨G, tl, ?_⟩
    rcases hGt with ⟨q, -⟩ | ⟨b, p, cap, hc, hl, -⟩
    · omega
    · subst hc
      refine grown_fin hF hGr hB hKx hge1 hl hie1 (by rw [hcnd, decide_eq_false (by omega)]) hnb3 ?_ (by simp [hg]) (by simp) (by simp)
      intro t ht h1 h2 h3
      simp only [List.mem_cons] at ht ⊢
      rcases ht with q | q | q | q | q | q
      · exact absurd q h2
      · exact .inr (.inr (.inl q))
      · exact .inr (.inr (.inr (.inl q)))
      · exact absurd q h3
      · exact .inl q
      · exact .inr (.inr (.inr (.inr q)))
end Go.Ab

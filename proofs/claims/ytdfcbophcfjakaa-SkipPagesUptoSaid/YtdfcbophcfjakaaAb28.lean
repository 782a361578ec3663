import Derived.Test.YtdfcbophcfjakaaAb27
set_option linter.unusedSimpArgs false
set_option linter.unusedVariables false
set_option linter.unusedSectionVars false
/- The loop's inner region, in two forms. -/
namespace Go.Ab
theorem info_of {P : Program} {e : TypeId} (h : (P.info? e).map (fun i => (i.size, i.bytes, i.zero.map (·.cells.size))) = some (1, 1, some 1)) : ∃ (i : TypeInfo) (z : Value), P.info? e = some i ∧ i.zero = some z ∧ i.size = 1 ∧ i.bytes = 1 ∧ z.cells.size = 1 := by
  cases hi : P.info? e with
  | none => rw [hi] at h; cases h
  | some i =>
    rw [hi] at h
    simp only [Option.map_some, Option.some.injEq, Prod.mk.injEq] at h
    obtain ⟨h1, h2, h3⟩ := h
    cases hz : i.zero with
    | none => rw [hz] at h3; cases h3
    | some z => rw [hz] at h3; simp only [Option.map_some, Option.some.injEq] at h3; exact ⟨i, z, rfl, hz, h1, h2, h3⟩
section
variable {P : Program} {t e ta tb ti tj : TypeId} {N n g iv io A B1 B2 B3 C D E id : Nat} {u0 u1 u2 u3 u4 u5 u6 u7 : TypeId} {p0 p1 p2 p3 p4 p5 p6 p7 : String} {f0 f1 f2 f3 f4 f5 f6 f7 : Array Edge}
/-- append(g, byte(i)) -/
theorem body_byte (ht : P.underlying t = some (.slice e)) (hi : (P.info? e).map (fun i => (i.size, i.bytes, i.zero.map (·.cells.size))) = some (1, 1, some 1)) (hz : zeroV P e = some [.int .u8 0]) (ha : P.underlying ta = some (.int .i64)) (hb : P.underlying tb = some (.int .u8))
    (hfit : n + N < 140737488355328) (hd : [g, E, D, C, B1, A, iv].Nodup) :
    BodyOk P (.region id #[⟨some A, .move (.tmp g), u0, p0, f0, none⟩, ⟨some B1, .move (.tmp iv), u1, p1, f1, none⟩, ⟨some C, .convert ta tb (.tmp B1), u2, p2, f2, none⟩, ⟨some D, .buildSlice t 1 #[(0, .tmp C)], u3, p3, f3, none⟩,
      ⟨some E, .call { callee := .builtin .append, args := #[.tmp A, .tmp D], argTypes := #[t, t] }, u4, p4, f4, none⟩, ⟨some g, .assign (.tmp E), u5, p5, f5, none⟩] false) (fun _ => True) N n g iv [g, E, D, C, B1, A] := by
  intro nn a w1 w BB o i c Q hcode hsz hiN _ hg hiv hG hBl hA hQ
  obtain ⟨ti, z, r1, r2, r3, r4, r5⟩ := info_of hi
  have hsz1 : sizeOf? P e = some 1 := by unfold sizeOf?; rw [r1]; simp [r3]
  simp only [codeOk, dstsOk, Bool.and_eq_true, List.all_cons, List.all_nil, decide_eq_true_eq, and_true] at hcode
  obtain ⟨cA, cB, cC, cD, cE, cg⟩ := hcode
  replace cA : A < nn := cA
  replace cB : B1 < nn := cB
  replace cC : C < nn := cC
  replace cD : D < nn := cD
  replace cE : E < nn := cE
  replace cg : g < nn := cg
  simp only [List.nodup_cons, List.mem_cons, List.not_mem_nil, or_false, not_or, List.nodup_nil, and_true, not_false_eq_true] at hd
  obtain ⟨⟨g1, g2, g3, g4, g5, g6⟩, ⟨e1, e2, e3, e4, e5⟩, ⟨d1, d2, d3, d4⟩, ⟨c1, c2, c3⟩, ⟨b1, b2⟩, a1⟩ := hd
  refine wp_region ?_
  show wpOps P _ _ [0, 1, 2, 3, 4, 5] a w
  refine ops_at rfl rfl (wp_ran (ran_move (.inl rfl)) ?_)
  refine ops_at rfl rfl (wp_ran (ran_move (.inl rfl)) ?_)
  rw [hg]
  have h1 : (a.put (some A) c).eval (.tmp iv) = .int .i64 i := by rw [put_other a1, hiv]
  show wpOps P _ _ _ ((a.put (some A) c).put (some B1) ((a.put (some A) c).eval (.tmp iv))) w
  rw [h1]
  refine ops_at rfl rfl (wp_ran (ran_conv rfl (put_same (by rw [put_size]; omega)) ha hb) ?_)
  obtain ⟨u, hu⟩ : ∃ u, u = IntKind.u8.wrap (i : Int) := ⟨_, rfl⟩
  rw [← hu]
  show wpOps P _ _ _ (((a.put (some A) c).put (some B1) (.int .i64 i)).put (some C) (.int .u8 u)) w
  refine app_ops (o := o) (len := n + i) (c := c) (k := .u8) (u := u) ht r1 r2 r3 r5 (by omega) (by rw [r4]; omega) hsz1 hz rfl rfl rfl rfl rfl rfl rfl rfl rfl rfl rfl rfl (by simp only [put_size]; omega) (by simp only [put_size]; omega) (fun q => d3 q.symm)
    (by rw [put_other c2, put_other b1, put_same (by omega)]) (put_same (by simp only [put_size]; omega)) hG hBl hA ?_
  intro c' v w' hv k1 k2
  refine hQ _ w' c' ?_ ?_ k1 k2 (put_same (by simp only [put_size]; omega))
  · exact ((((((Kp.refl _ a).put (by simp)).put (by simp)).put (by simp)).put (by simp)).put (by simp)).put (by simp)
  · have hc0 : ∀ b, c ≠ .bool b := by
      rcases hA with ⟨-, base, rfl⟩ | ⟨b, p, cap, rfl, -⟩ <;> exact fun b => by simp
    have hc1 : ∀ b, c' ≠ .bool b := by
      rcases k2 with ⟨-, base, rfl⟩ | ⟨b, p, cap, rfl, -⟩ <;> exact fun b => by simp
    exact ((((((NB.nil a).put (by omega) hc0).put (by rw [put_size]; omega) (fun b => by simp)).put (by simp only [put_size]; omega) (fun b => by simp)).put (by simp only [put_size]; omega) hv).put (by simp only [put_size]; omega) hc1).put (by simp only [put_size]; omega) hc1
/-- append(g, byte(k+i)) -/
theorem body_byte2 (ht : P.underlying t = some (.slice e)) (hi : (P.info? e).map (fun i => (i.size, i.bytes, i.zero.map (·.cells.size))) = some (1, 1, some 1)) (hz : zeroV P e = some [.int .u8 0]) (ha : P.underlying ta = some (.int .i64)) (hb : P.underlying tb = some (.int .u8))
    (hfit : n + N < 140737488355328) (hd : [g, E, D, C, B3, B2, B1, A, iv].Nodup) (hio : io ∉ [g, E, D, C, B3, B2, B1, A, iv]) :
    BodyOk P (.region id #[⟨some A, .move (.tmp g), u0, p0, f0, none⟩, ⟨some B1, .move (.tmp iv), u1, p1, f1, none⟩, ⟨some B2, .move (.tmp io), u6, p6, f6, none⟩, ⟨some B3, .binOp .add ti (.tmp B1) (.tmp B2) tj, u7, p7, f7, none⟩, ⟨some C, .convert ta tb (.tmp B3), u2, p2, f2, none⟩, ⟨some D, .buildSlice t 1 #[(0, .tmp C)], u3, p3, f3, none⟩,
      ⟨some E, .call { callee := .builtin .append, args := #[.tmp A, .tmp D], argTypes := #[t, t] }, u4, p4, f4, none⟩, ⟨some g, .assign (.tmp E), u5, p5, f5, none⟩] false) (fun a => ∃ m, a.eval (.tmp io) = .int .i64 m) N n g iv [g, E, D, C, B3, B2, B1, A] := by
  intro nn a w1 w BB o i c Q hcode hsz hiN ⟨m, hm⟩ hg hiv hG hBl hA hQ
  obtain ⟨ti', z, r1, r2, r3, r4, r5⟩ := info_of hi
  have hsz1 : sizeOf? P e = some 1 := by unfold sizeOf?; rw [r1]; simp [r3]
  simp only [codeOk, dstsOk, Bool.and_eq_true, List.all_cons, List.all_nil, decide_eq_true_eq, and_true] at hcode
  obtain ⟨cA, cB, cB2, cB3, cC, cD, cE, cg⟩ := hcode
  replace cA : A < nn := cA
  replace cB : B1 < nn := cB
  replace cB2 : B2 < nn := cB2
  replace cB3 : B3 < nn := cB3
  replace cC : C < nn := cC
  replace cD : D < nn := cD
  replace cE : E < nn := cE
  replace cg : g < nn := cg
  simp only [List.nodup_cons, List.mem_cons, List.not_mem_nil, or_false, not_or, List.nodup_nil, and_true, not_false_eq_true] at hd hio
  obtain ⟨⟨g1, g2, g3, g4, g5, g6, g7, g8⟩, ⟨e1, e2, e3, e4, e5, e6, e7⟩, ⟨d1, d2, d3, d4, d5, d6⟩, ⟨c1, c2, c3, c4, c5⟩, ⟨y1, y2, y3, y4⟩, ⟨x1, x2, x3⟩, ⟨b1, b2⟩, a1⟩ := hd
  obtain ⟨o1, o2, o3, o4, o5, o6, o7, o8, o9⟩ := hio
  refine wp_region ?_
  show wpOps P _ _ [0, 1, 2, 3, 4, 5, 6, 7] a w
  refine ops_at rfl rfl (wp_ran (ran_move (.inl rfl)) ?_)
  refine ops_at rfl rfl (wp_ran (ran_move (.inl rfl)) ?_)
  rw [hg]
  have h1 : (a.put (some A) c).eval (.tmp iv) = .int .i64 i := by rw [put_other a1, hiv]
  show wpOps P _ _ _ ((a.put (some A) c).put (some B1) ((a.put (some A) c).eval (.tmp iv))) w
  rw [h1]
  refine ops_at rfl rfl (wp_ran (ran_move (.inl rfl)) ?_)
  have h2 : ((a.put (some A) c).put (some B1) (.int .i64 i)).eval (.tmp io) = .int .i64 m := by rw [put_other (Ne.symm o7), put_other (Ne.symm o8), hm]
  show wpOps P _ _ _ (((a.put (some A) c).put (some B1) (.int .i64 i)).put (some B2) (((a.put (some A) c).put (some B1) (.int .i64 i)).eval (.tmp io))) w
  rw [h2]
  obtain ⟨r, q1, q2⟩ := ran_bin (P := P) (o := ⟨some B3, .binOp .add ti (.tmp B1) (.tmp B2) tj, u7, p7, f7, none⟩) (a := ((a.put (some A) c).put (some B1) (.int .i64 i)).put (some B2) (.int .i64 m)) (w := w) rfl (by rw [put_other x1, put_same (by rw [put_size]; omega)]) (put_same (by simp only [put_size]; omega)) (v := .int .i64 (IntKind.i64.wrap ((i : Int) + m))) rfl
  obtain rfl : r = .int .i64 (IntKind.i64.wrap ((i : Int) + m)) := by
    rcases q2 with ⟨_, _, q, rfl⟩ | ⟨b, q, _⟩ | ⟨_, q, _⟩
    · cases q; rfl
    · cases q
    · cases q
  refine ops_at rfl rfl (wp_ran q1 ?_)
  obtain ⟨s, hs⟩ : ∃ s, s = IntKind.i64.wrap ((i : Int) + m) := ⟨_, rfl⟩
  rw [← hs]
  refine ops_at rfl rfl (wp_ran (ran_conv rfl (put_same (by simp only [put_size]; omega)) ha hb) ?_)
  obtain ⟨u, hu⟩ : ∃ u, u = IntKind.u8.wrap s := ⟨_, rfl⟩
  rw [← hu]
  show wpOps P _ _ _ (((((a.put (some A) c).put (some B1) (.int .i64 i)).put (some B2) (.int .i64 m)).put (some B3) (.int .i64 s)).put (some C) (.int .u8 u)) w
  refine app_ops (o := o) (len := n + i) (c := c) (k := .u8) (u := u) ht r1 r2 r3 r5 (by omega) (by rw [r4]; omega) hsz1 hz rfl rfl rfl rfl rfl rfl rfl rfl rfl rfl rfl rfl (by simp only [put_size]; omega) (by simp only [put_size]; omega) (fun q => d5 q.symm)
    (by rw [put_other c4, put_other y3, put_other x2, put_other b1, put_same (by omega)]) (put_same (by simp only [put_size]; omega)) hG hBl hA ?_
  intro c' v w' hv k1 k2
  refine hQ _ w' c' ?_ ?_ k1 k2 (put_same (by simp only [put_size]; omega))
  · exact ((((((((Kp.refl _ a).put (by simp)).put (by simp)).put (by simp)).put (by simp)).put (by simp)).put (by simp)).put (by simp)).put (by simp)
  · have hc0 : ∀ b, c ≠ .bool b := by
      rcases hA with ⟨-, base, rfl⟩ | ⟨b, p, cap, rfl, -⟩ <;> exact fun b => by simp
    have hc1 : ∀ b, c' ≠ .bool b := by
      rcases k2 with ⟨-, base, rfl⟩ | ⟨b, p, cap, rfl, -⟩ <;> exact fun b => by simp
    exact ((((((((NB.nil a).put (by omega) hc0).put (by rw [put_size]; omega) (fun b => by simp)).put (by simp only [put_size]; omega) (fun b => by simp)).put (by simp only [put_size]; omega) (fun b => by simp)).put (by simp only [put_size]; omega) (fun b => by simp)).put (by simp only [put_size]; omega) hv).put (by simp only [put_size]; omega) hc1).put (by simp only [put_size]; omega) hc1
end
end Go.Ab

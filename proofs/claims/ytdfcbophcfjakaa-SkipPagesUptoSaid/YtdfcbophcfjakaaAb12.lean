import Derived.Test.YtdfcbophcfjakaaAb11
set_option linter.unusedSimpArgs false
set_option linter.unusedVariables false
set_option linter.unusedSectionVars false
/- Operations that make objects, or write to them. -/
namespace Go.Ab
section
variable {P : Program} {G : Gh} {tl : Nat → Nat → Option (Nat × Nat)} {E : Nat} {toks : List Nat} {objs : List AO} {w : World} {env : Nat → V} {a : Act}
/-- One object has turned (and perhaps moved). -/
theorem obj_turn (hs : Store G tl E toks objs w) {id ver ver' b o b' o' : Nat} {cs cs' : List V} {arr' : Array Value} {el' : TypeId} {w' : World} {G' : Gh} (hi : objs[id]? = some (.cells cs ver)) (hloc : G.loc id ver = some (b, o))
    (hver : ver ≤ ver') (hG1 : ∀ i v, (i ≠ id ∨ v ≠ ver') → G'.loc i v = G.loc i v) (hG2 : G'.loc id ver' = some (b', o')) (hG3 : G'.st = G.st) (hgle : GLe G G')
    (hw : WLe G w w') (hsz : ∀ k o2, w.heap[k]? = some o2 → k ≠ b → w'.heap[k]? = some o2) (hb' : b' = b ∨ w.heap.size ≤ b') (hown : Own G' w' b' o' cs'.length arr' el') (hv : ∀ j (h : j < cs'.length), VR G' w' (cs'[j]'h) (arr'.getD (o' + j) Go.undef)) (hst : ∀ x, ¬ G.st b' x) :
    Store G' tl E toks (objs.set id (.cells cs' ver')) w' ∧ (∀ i b2, OwnedAt G' (objs.set id (.cells cs' ver')) i b2 → (i = id ∧ b2 = b') ∨ OwnedAt G objs i b2) := by
  have hlt : id < objs.length := by
    rcases Nat.lt_or_ge id objs.length with h1 | h1
    · exact h1
    · rw [List.getElem?_eq_none h1] at hi; cases hi
  have hget : ∀ i x, (objs.set id (.cells cs' ver'))[i]? = some x → (i ≠ id ∧ objs[i]? = some x) ∨ (i = id ∧ x = .cells cs' ver') := by
    intro i x h
    by_cases hii : i = id
    · subst hii
      rw [List.getElem?_set_self hlt] at h
      exact .inr ⟨rfl, (Option.some.inj h).symm⟩
    · rw [List.getElem?_set_ne (fun h => hii h.symm)] at h
      exact .inl ⟨hii, h⟩
  have hblk : ∀ i c2 v2 b2 o2, i ≠ id → objs[i]? = some (.cells c2 v2) → G.loc i v2 = some (b2, o2) → b2 ≠ b ∧ b2 ≠ b' := by
    intro i c2 v2 b2 o2 hne h1 h2
    have h3 : b2 ≠ b := by rintro rfl; exact hne (hs.oo i id _ _ _ _ _ _ _ h1 hi h2 hloc)
    refine ⟨h3, ?_⟩
    rcases hb' with rfl | h4
    · exact h3
    · obtain ⟨b3, o3, a3, e3, q1, q2, _⟩ := hs.cellsR i c2 v2 h1
      rw [q1] at h2; cases h2
      have := lt_of_get q2.at_; omega
  have htb : ∀ t n b2 o2, toks[t]? = some n → tl t n = some (b2, o2) → b2 ≠ b ∧ b2 ≠ b' := by
    intro t n b2 o2 h1 h2
    have h3 : b2 ≠ b := by rintro rfl; exact hs.ot id _ _ t n _ _ _ hi h1 hloc h2
    refine ⟨h3, ?_⟩
    rcases hb' with rfl | h4
    · exact h3
    · have := hs.tbl b2 ⟨_, _, _, h2⟩; omega
  refine ⟨⟨?_, ?_, ?_, ?_, hs.tnew, hs.tnews, ?_, hs.tt, ?_, ?_, ?_, hs.maps.keep hgle hw (fun k a c hk => hsz k _ hk (by
      rintro rfl
      obtain ⟨b3, o3, a3, e3, q1, q2, _⟩ := hs.cellsR id cs ver hi
      rw [q1] at hloc; cases hloc
      rw [q2.at_] at hk; cases hk)) (fun i es v h => (hget i _ h).elim (fun q => hG1 i v (.inl q.1)) fun q => by cases q.2) (fun _ _ k x a c _ _ hk hx => by rw [hG3] at hx; exact hx) (fun i es h => (hget i _ h).elim (fun q => q.2) fun q => by cases q.2)⟩, ?_⟩
  · intro i c2 v2 h
    rcases hget i _ h with ⟨h1, h2⟩ | ⟨rfl, h2⟩
    · obtain ⟨b2, o2, a2, e2, q1, q2, q3, q4⟩ := hs.cellsR i c2 v2 h2
      obtain ⟨n1, n2⟩ := hblk i _ _ _ _ h1 h2 q1
      exact ⟨b2, o2, a2, e2, by rw [hG1 i v2 (.inl h1)]; exact q1, ⟨hsz _ _ q2.at_ n1, q2.fit⟩, fun j hj => (q3 j hj).mono hgle hw, fun x hx => q4 x (by rw [hG3] at hx; exact hx)⟩
    · cases h2
      exact ⟨b', o', arr', el', hG2, hown, hv, fun x hx => hst x (by rw [hG3] at hx; exact hx)⟩
  · intro i c2 v2 h v3 hv3
    rcases hget i _ h with ⟨h1, h2⟩ | ⟨rfl, h2⟩
    · rw [hG1 i v3 (.inl h1)]; exact hs.vers i c2 v2 h2 v3 hv3
    · cases h2
      rw [hG1 _ v3 (.inr (by omega))]; exact hs.vers _ _ _ hi v3 (by omega)
  · intro i hi' v2
    rw [List.length_set] at hi'
    rw [hG1 i v2 (.inl (by omega))]; exact hs.news i hi' v2
  · intro t n ht
    obtain ⟨b2, o2, a2, e2, q1, q2, q3, q4⟩ := hs.toksR t n ht
    obtain ⟨n1, n2⟩ := htb t n _ _ ht q1
    exact ⟨b2, o2, a2, e2, q1, ⟨hsz _ _ q2.at_ n1, q2.fit⟩, fun x hx hst' => q3 x hx (by rw [hG3] at hst'; exact hst'), q4⟩
  · intro i i' c1 c2 v1 v2 b2 o1 o2 h1 h2 l1 l2
    rcases hget i _ h1 with ⟨p1, p2⟩ | ⟨rfl, p2⟩ <;> rcases hget i' _ h2 with ⟨p3, p4⟩ | ⟨rfl, p4⟩
    · rw [hG1 i v1 (.inl p1)] at l1; rw [hG1 i' v2 (.inl p3)] at l2; exact hs.oo i i' c1 c2 v1 v2 b2 o1 o2 p2 p4 l1 l2
    · cases p4; rw [hG1 i v1 (.inl p1)] at l1; rw [hG2] at l2; cases l2
      exact absurd rfl (hblk i _ _ _ _ p1 p2 l1).2
    · cases p2; rw [hG1 i' v2 (.inl p3)] at l2; rw [hG2] at l1; cases l1
      exact absurd rfl (hblk i' _ _ _ _ p3 p4 l2).2
    · rfl
  · intro i c1 v1 t n b2 o1 o2 h1 ht l1 l2
    rcases hget i _ h1 with ⟨p1, p2⟩ | ⟨rfl, p2⟩
    · rw [hG1 i v1 (.inl p1)] at l1; exact hs.ot i c1 v1 t n b2 o1 o2 p2 ht l1 l2
    · cases p2; rw [hG2] at l1; cases l1
      exact (htb t n _ _ ht l2).2 rfl
  · intro b2 x hx
    rw [hG3] at hx
    exact Nat.lt_of_lt_of_le (hs.lt b2 x hx) hw.size
  · intro b2 hb2; exact Nat.lt_of_lt_of_le (hs.tbl b2 hb2) hw.size
  · rintro i b2 ⟨v2, o2, ⟨c2, h1⟩ | ⟨rfl, es, h1⟩, h2⟩
    · rcases hget i _ h1 with ⟨p1, p2⟩ | ⟨rfl, p2⟩
      · rw [hG1 i v2 (.inl p1)] at h2; exact .inr ⟨v2, o2, .inl ⟨c2, p2⟩, h2⟩
      · cases p2; rw [hG2] at h2; cases h2; exact .inl ⟨rfl, rfl⟩
    · rcases hget i _ h1 with ⟨p1, p2⟩ | ⟨rfl, p2⟩
      · rw [hG1 i 0 (.inl p1)] at h2; exact .inr ⟨0, o2, .inr ⟨rfl, es, p2⟩, h2⟩
      · cases p2
theorem storeVar_run {t : TypeId} {n b o : Nat} {c : Value} {arr : Array Value} {el : TypeId} (hn : sizeOf? P t = some n) (hb : w.heap[b]? = some (.cells arr el (0, 0))) (hc : c.cells.size = n) (ho : o + n ≤ arr.size) (h1 : ∀ u ∈ c.cells.toList, u.oneCell' = true) :
    (storeVar t ⟨b, o, none⟩ c).run P w = .ok () (w.setCells b o c.cells.toList) := by
  have hst := run_storeCells_cells (P := P) b o c.cells.toList 0 w (fun j hj => by
      unfold World.cell?; simp only [hb]
      rw [Array.length_toList] at hj
      have : o + j < arr.size := by omega
      simp [this]) (fun j hj => by unfold World.frozen?; simp [hb]) h1
  unfold storeVar
  simp only [Sem.run_bind, size_run hn, Result.andThen_ok, hc, ne_eq, not_true_eq_false, if_false, Sem.run_pure]
  simpa using hst
set_option maxHeartbeats 1000000 in
theorem store_ok {o : Oper} {t : TypeId} {x y : Operand} {id ver off n : Nat} {cs : List V} (hop : o.op = .store t x y) (he : EnvR G tl E w env a) (hs : Store G tl E toks objs w)
    (hk : opd env x = .ptr id ver off) (hg : getObj objs id ver = some cs) (hn : sizeOf? P t = some n) (hl : (cellsOf (demote (opd env y))).length = n) (hfit : off + n ≤ cs.length) (ho : (cellsOf (demote (opd env y))).all oneCell = true) :
    Does P G tl E objs w a o .undef toks (objs.set id (.cells (setCells cs off (cellsOf (demote (opd env y)))) ver)) := by
  have hx := opd_vr he x
  rw [hk] at hx
  obtain ⟨b, o', hloc, ex⟩ := hx.ptr_inv
  obtain ⟨b2, o2, arr, el, h1, h2, h3, h4, h5, h6⟩ := obj_cell hs hg
  rw [h2] at hloc; cases hloc
  have hy := (opd_vr he y).demote
  have hdef : isDef (demote (opd env y)) = true := by
    cases hd : demote (opd env y) <;> first | rfl | (rw [hd] at ho; simp [cellsOf, oneCell] at ho)
  obtain ⟨c1, c2⟩ := cells_vr hy hdef
  rw [List.all_eq_true] at ho
  have hone : ∀ u ∈ (a.eval y).cells.toList, u.oneCell' = true := by
    intro u hu
    obtain ⟨j, hj, rfl⟩ := List.getElem_of_mem hu
    rw [Array.length_toList, c1] at hj
    have := c2 j hj
    rw [getD_eq (by omega)] at this
    rw [Array.getElem_toList]
    exact oneCell_vr this (ho _ (List.getElem_mem hj))
  have hrun := storeVar_run (P := P) (w := w) (c := a.eval y) (o := o' + off) hn h3.at_ (by omega) (by have := h3.fit; omega) hone
  obtain ⟨arr', g1, g2, g3, g4, g5, g6, g7, g8⟩ := setCells_spec b (a.eval y).cells.toList (o' + off) w arr el (0, 0) h3.at_ (by rw [Array.length_toList]; have := h3.fit; omega)
  have hwr : Wrote G b arr arr' el w (w.setCells b (o' + off) (a.eval y).cells.toList) := ⟨h3.at_, g1, g2, fun x hx => absurd hx (h6 x), g4, g5, g6, g7, g8⟩
  have hlen := setCells_length (show off + (cellsOf (demote (opd env y))).length ≤ cs.length by omega)
  obtain ⟨s1, s2⟩ := obj_turn (G' := G) (ver' := ver) (cs' := setCells cs off (cellsOf (demote (opd env y)))) (arr' := arr') (el' := el) hs h1 h2 (Nat.le_refl _) (fun _ _ _ => rfl) h2 rfl (GLe.refl G) hwr.wle
    (fun k o2 hk hne => (g4 k hne).trans hk) (.inl rfl) ⟨g1, by rw [hlen, g2]; exact h3.fit⟩ (fun j hj => by
      have hj' : j < cs.length := by rw [hlen] at hj; exact hj
      have := set_vr (f := fun j => arr.getD (o' + j) Go.undef) (g := fun j => (a.eval y).cells.getD j Go.undef) (show off + (cellsOf (demote (opd env y))).length ≤ cs.length by omega) h5 c2 j hj
      refine VR.mono ?_ (GLe.refl G) hwr.wle
      rw [g3 (o' + j), Array.length_toList, c1]
      by_cases hc : off ≤ j ∧ j < off + (cellsOf (demote (opd env y))).length
      · rw [if_pos hc] at this
        rw [if_pos (by omega)]
        have e2 : (a.eval y).cells.toList.getD (o' + j - (o' + off)) Go.undef = (a.eval y).cells.getD (j - off) Go.undef := by
          rw [show o' + j - (o' + off) = j - off by omega]; simp [List.getD, Array.getD_eq_getD_getElem?]
        rw [e2]; exact this
      · rw [if_neg hc] at this
        rw [if_neg (by omega)]; exact this) h6
  refine ⟨Go.undef, _, G, tl, .inr ⟨?_, rfl⟩, .undef (fun _ => nofun), flatTok (by simp) (by simp), GLe.refl G, TLe.refl tl w, hwr.wle, s1, fun b2 hb2 hno => ?_, fun i b2 hb2 => ?_, fun _ _ _ h => h⟩
  · simp [execOp, hop, ex, Instr.storeAt, Instr.sureAddr, hrun]
  · refine g4 b2 ?_
    rintro rfl
    exact hno ⟨id, .cells h1 h2⟩
  · rcases s2 i b2 hb2 with ⟨rfl, rfl⟩ | h
    · exact .inr (.cells h1 h2)
    · exact .inr h
theorem refapp_ok {o : Oper} {args : Array Operand} {ats : Array TypeId} {t t2 e : TypeId} {x y : Operand} {id ver len n' m : Nat} {cs ys : List V} {news : List Value} {zv : Value} {zi : TypeInfo} (he : EnvR G tl E w env a) (hs : Store G tl E toks objs w) (hE : E ≤ w.heap.size)
    (hop : o.op = .call { callee := .builtin .append, args := args, argTypes := ats }) (hat : ats.toList = [t, t2]) (har : args.toList = [x, y]) (hu : P.underlying t = some (.slice e)) (hn0 : 0 < n')
    (hsrc : Src P n' t2 (a.eval y) m news w) (hnl : news.length = ys.length) (hym : ys.length = m * n') (hyv : ∀ j (h1 : j < ys.length) (h2 : j < news.length), VR G w (ys[j]'h1) (news[j]'h2))
    (z1 : P.info? e = some zi) (z2 : zi.zero = some zv) (hzin : zi.size = n') (hzc : zv.cells.size = n') (hk : opd env x = .ref id ver 0 len n') (hg : getObj objs id ver = some cs) (c2 : cs.length = len * n') (i3 : 0 < zi.bytes) (i4 : (len + m) * zi.bytes < 140737488355328) :
    Does P G tl E objs w a o (.ref id (ver + 1) 0 (len + m) n') toks (objs.set id (.cells (cs ++ ys) (ver + 1))) := by
  have hx := opd_vr he x
  rw [hk] at hx
  obtain ⟨b, o', cap, p, arr0, el0, fz0, ex, hloc, hlc, hhb, hp, hsp⟩ := hx.ref_inv
  obtain ⟨b2, o2, arr, el, h1, h2, h3, h4, h5, h6⟩ := obj_cell hs hg
  rw [hloc] at h2
  injection h2 with h2
  injection h2 with e1 e2
  subst e1; subst e2
  have h2 := hloc
  have e3 := h3.at_.symm.trans hhb
  injection e3 with e3
  injection e3 with e4 e5 e6
  subst e4; subst e5; subst e6
  have hfree : G.loc id (ver + 1) = none := hs.vers id cs ver h1 _ (by omega)
  have hgle : ∀ nb no, GLe G (G.newLoc id (ver + 1) nb no) := fun nb no => ⟨fun i2 v2 p2 hp2 => by
    simp only [Gh.newLoc]
    by_cases hq : i2 = id ∧ v2 = ver + 1
    · obtain ⟨rfl, rfl⟩ := hq; rw [hfree] at hp2; cases hp2
    · rw [if_neg hq]; exact hp2, fun _ _ h => h⟩
  have hG1 : ∀ nb no i2 v2, (i2 ≠ id ∨ v2 ≠ ver + 1) → (G.newLoc id (ver + 1) nb no).loc i2 v2 = G.loc i2 v2 := fun nb no i2 v2 hq => by simp only [Gh.newLoc]; rw [if_neg (by omega)]
  have hG2 : ∀ nb no, (G.newLoc id (ver + 1) nb no).loc id (ver + 1) = some (nb, no) := fun nb no => by simp [Gh.newLoc]
  have hown : ∀ b3, b3 = b → OwnedAt G objs id b3 := fun b3 h => OwnedAt.cells (o := o') h1 (by rw [h]; exact h2)
  have hlen2 : (cs ++ ys).length = cs.length + ys.length := List.length_append
  have hnews : ∀ j (h : j < news.length), news.getD j Go.undef = news[j] := fun j h => by rw [List.getD_eq_getElem?_getD, List.getElem?_eq_getElem h]; rfl
  by_cases hroom : len + m ≤ cap
  · by_cases hcap0 : cap = 0
    · have hm0 : m = 0 := by omega
      have hl0 : len = 0 := by omega
      subst hm0; subst hl0; subst hcap0
      rw [Nat.zero_mul] at hym c2
      have e1 : ys = [] := List.eq_nil_of_length_eq_zero hym
      have e2 : cs = [] := List.eq_nil_of_length_eq_zero c2
      subst e1; subst e2
      have e3 : news = [] := List.eq_nil_of_length_eq_zero (by rw [hnl]; rfl)
      subst e3
      obtain ⟨s1, s2⟩ := obj_turn (G' := G.newLoc id (ver + 1) b o') (ver' := ver + 1) (cs' := []) (arr' := arr) (el' := el) (w' := w) hs h1 h2 (by omega) (fun i2 v2 hq => hG1 _ _ i2 v2 hq) (hG2 _ _) rfl (hgle _ _) (WLe.refl G w) (fun k o2 hk _ => hk) (.inl rfl) ⟨h3.at_, by have := h3.fit; simpa using this⟩ (fun j hj => absurd hj (by simp)) h6
      refine ⟨.slice (some ⟨b, p, none⟩) 0 0, w, _, tl, .inl (append_prep hop hat har ?_), .ref (hG2 b o') (Nat.le_refl _) (fun h => by omega) h3.at_ (fun h => by omega), flatTok (by simp) (by simp), hgle _ _, TLe.refl tl w, WLe.refl G w, s1, fun _ _ _ => rfl, fun i3 b3 hb3 => ?_, fun _ _ _ h => h⟩
      · rw [ex]
        exact run_append_nothing w t t2 o.type e zi hu z1 _ 0 0 (Nat.le_refl _) _ (by rw [hzin]; exact hsrc)
      · rcases s2 i3 b3 hb3 with ⟨rfl, h⟩ | h
        · exact .inr (hown b3 h)
        · exact .inr h
    · have hcap : 0 < cap := by omega
      have hpe : p = o' := by have := hp hcap; omega
      rw [hpe] at ex
      have hsp := hsp hcap
      have hmul : (len + m) * n' ≤ cap * n' := Nat.mul_le_mul_right _ hroom
      rw [Nat.add_mul] at hmul
      have hcells : ∀ j, j < news.length → (w.cell? ⟨b, o' + len * n' + j, none⟩).isSome = true := by
        intro j hj
        unfold World.cell?
        simp only [h3.at_]
        have : o' + len * n' + j < arr.size := by omega
        simp [this]
      have hfroz : ∀ j, j < news.length → w.frozen? ⟨b, o' + len * n' + j, none⟩ = false := fun j _ => by unfold World.frozen?; simp [h3.at_]
      have hrun := run_append_room_src (P := P) w t t2 o.type e zi hu z1 b (o') len cap (a.eval y) m news (by rw [hzin]; exact hsrc) hroom (by rw [hzin]; exact hcells) (by rw [hzin]; exact hfroz)
      rw [hzin, ← c2] at hrun
      obtain ⟨arr', g1, g2, g3, g4, g5, g6, g7, g8⟩ := setCells_spec b news (o' + cs.length) w arr el (0, 0) h3.at_ (by omega)
      have hwr : Wrote G b arr arr' el w (w.setCells b (o' + cs.length) news) := ⟨h3.at_, g1, g2, fun x hx => absurd hx (h6 x), g4, g5, g6, g7, g8⟩
      obtain ⟨s1, s2⟩ := obj_turn (G' := G.newLoc id (ver + 1) b o') (ver' := ver + 1) (cs' := cs ++ ys) (arr' := arr') (el' := el) hs h1 h2 (by omega) (fun i2 v2 hq => hG1 _ _ i2 v2 hq) (hG2 _ _) rfl (hgle _ _) hwr.wle
        (fun k o2 hk hne => (g4 k hne).trans hk) (.inl rfl) ⟨g1, by rw [hlen2, g2]; omega⟩ (fun j hj => by
          refine VR.mono ?_ (hgle _ _) hwr.wle
          rw [g3 (o' + j)]
          rw [hlen2] at hj
          by_cases hjc : j < cs.length
          · rw [if_neg (by omega), List.getElem_append_left hjc]; exact h5 j hjc
          · rw [if_pos (by omega), List.getElem_append_right (by omega), show o' + j - (o' + cs.length) = j - cs.length by omega, hnews _ (by omega)]
            exact hyv _ _ _) h6
      refine ⟨.slice (some ⟨b, o', none⟩) (len + m) cap, _, _, tl, .inl (append_prep hop hat har (by rw [ex]; exact hrun)), .ref (hG2 b o') hroom (fun _ => rfl) g1 (fun _ => by rw [g2]; exact hsp), flatTok (by simp) (by simp), hgle _ _, TLe.refl tl w, hwr.wle, s1, fun b3 hb3 hno => ?_, fun i3 b3 hb3 => ?_, fun _ _ _ h => h⟩
      · refine g4 b3 ?_
        intro hb3'
        exact hno (hown b3 hb3').owned
      · rcases s2 i3 b3 hb3 with ⟨rfl, h⟩ | h
        · exact .inr (hown b3 h)
        · exact .inr h
  · have hm0 : 0 < m := by omega
    obtain ⟨arr', cap', g1, g2, g3, g4⟩ := grow_row (ty := o.type) (cs := cs) (len := len) (cap := cap) (base := some ⟨b, p, none⟩) hu z1 z2 hzin hsrc hnl hym hyv ((List.range cs.length).map fun j => arr.getD (o' + j) Go.undef) (by simp) c2
      (run_firstCells_some w.drew n' len ⟨b, p, none⟩ len cap _ (by simp [c2]) (fun j u hu => by
        rw [List.getElem?_map, Option.map_eq_some_iff] at hu
        obtain ⟨i', hi', rfl⟩ := hu
        rcases Nat.lt_or_ge j cs.length with hj | hj
        · rw [List.getElem?_range hj] at hi'; cases hi'
          have hl0 : 0 < len := by
            rcases Nat.eq_zero_or_pos len with h0 | h0
            · rw [h0, Nat.zero_mul] at c2; omega
            · exact h0
          rw [hp (by omega), Nat.add_zero]
          exact h4 j hj
        · rw [List.getElem?_eq_none (by simpa using hj)] at hi'; cases hi'))
      (fun j hj1 hj2 => by simp only [List.getElem_map, List.getElem_range]; exact h5 j hj1) (by omega) i3 i4 hzc
    rw [← ex] at g1
    have hlenn : (cs ++ ys).length = (len + m) * n' := by rw [hlen2, c2, hym, Nat.add_mul]
    have hle : (cs ++ ys).length ≤ arr'.size := by have := Nat.mul_le_mul_right n' g2; omega
    have hwp : WLe G w { w.drew with heap := w.heap.push (.cells arr' e) } := drew_wle.trans (GLe.refl G) (WLe.push (w := w.drew) _ hs.lt)
    obtain ⟨s1, s2⟩ := obj_turn (G' := G.newLoc id (ver + 1) w.heap.size 0) (ver' := ver + 1) (cs' := cs ++ ys) (arr' := arr') (el' := e) (w' := { w.drew with heap := w.heap.push (.cells arr' e) }) hs h1 h2 (by omega) (fun i2 v2 hq => hG1 _ _ i2 v2 hq) (hG2 _ _) rfl (hgle _ _) hwp
      (fun k o2 hk _ => (heap_push (w := w.drew) (lt_of_get hk)).trans hk) (.inr (Nat.le_refl _)) ⟨heap_push_new (w := w.drew), by omega⟩ (fun j hj => by rw [Nat.zero_add]; exact (g4 j hj).mono (hgle _ _) hwp) (fun x hx => by have := hs.lt _ x hx; omega)
    refine ⟨_, _, _, tl, .inl (append_prep hop hat har g1), .ref (hG2 w.heap.size 0) g2 (fun _ => rfl) (heap_push_new (w := w.drew)) (fun _ => by omega), flatTok (by simp) (by simp), hgle _ _, TLe.refl tl w, hwp, s1, fun b3 hb3 hno => heap_push (w := w.drew) (show b3 < w.heap.size by omega), fun i3 b3 hb3 => ?_, fun _ _ _ h => h⟩
    rcases s2 i3 b3 hb3 with ⟨rfl, h⟩ | h
    · left; omega
    · exact .inr h
theorem ent_push {es : List (V × V)} {arr : Array MapEntry} {k v : V} {ck cv : Value} {n : Nat} (h : EntR G w es arr) (hk : VR G w k ck) (hv : VR G w v cv) : EntR G w (es ++ [(k, v)]) (arr.push ⟨ck, cv, n⟩) := by
  refine ⟨by simp [h.1], fun j h1 h2 => ?_⟩
  rcases Nat.lt_or_ge j es.length with h3 | h3
  · have h4 : j < arr.size := by rw [h.1]; exact h3
    rw [List.getElem_append_left h3, Array.getElem_push_lt h4]
    exact h.2 j h3 h4
  · have h5 : j = es.length := by simp at h1; omega
    subst h5
    have h6 : es.length = arr.size := h.1.symm
    simp only [List.getElem_append_right (Nat.le_refl _), Nat.sub_self, List.getElem_cons_zero]
    have e : (arr.push ⟨ck, cv, n⟩)[es.length]'h2 = ⟨ck, cv, n⟩ := by simp [h6]
    rw [e]; exact ⟨hk, hv⟩
theorem ent_set {es : List (V × V)} {arr : Array MapEntry} {k v : V} {ck cv : Value} {i : Nat} (h : EntR G w es arr) (hk : VR G w k ck) (hv : VR G w v cv) : EntR G w (es.set i (k, v)) (arr.modify i fun e => { e with key := ck, val := cv }) := by
  refine ⟨by simp [h.1], fun j h1 h2 => ?_⟩
  have h3 : j < es.length := by simpa using h1
  have h4 : j < arr.size := by rw [h.1]; exact h3
  by_cases hij : i = j
  · subst hij
    simp only [List.getElem_set_self, Array.getElem_modify, if_true]
    exact ⟨hk, hv⟩
  · simp only [List.getElem_set_ne hij, Array.getElem_modify, if_neg hij]
    exact h.2 j h3 h4
theorem VR.map_inv {id : Nat} {c : Value} (h : VR G w (.map id) c) : ∃ b, c = .map (some b) := by cases h; exact ⟨_, rfl⟩
theorem update_ok {o : Oper} {t : TypeId} {m k x : Operand} {base low : Nat} {r : V × List AO × Nat} (hop : o.op = .mapUpdate t m k x) (he : EnvR G tl E w env a) (hs : Store G tl E toks objs w)
    (h : updateV P t (opd env m) (opd env k) (demote (opd env x)) base objs low = some r) : Does P G tl E objs w a o r.1 toks r.2.1 := by
  unfold updateV at h
  split at h
  case h_2 => cases h
  rename_i kt et id hu hm
  split at h
  case h_2 => cases h
  rename_i d es hd hg
  split at h
  case h_2 => cases h
  rename_i f hf
  split at h <;> cases h
  rename_i hc
  have hx := opd_vr he m
  rw [hm] at hx
  have hk := opd_vr he k
  have hv := (opd_vr he x).demote
  have hrow : rowMap objs (.map id) = some es := hg
  rcases row_map hs hx hrow with ⟨e, _⟩ | ⟨id', b, arr, cl, e1, e2, e3, e4, e5, e6, e7⟩
  · obtain ⟨b, q⟩ := VR.map_inv hx
    rw [q] at e; cases e
  cases e1
  have fin : ∀ (arr' : Array MapEntry) (cl' : Nat), EntR G w (putMap es f (opd env k) (demote (opd env x))) arr' → (Instr.mapUpdate t (a.eval m) (a.eval k) (a.eval x)).run P w = .ok () { w with heap := w.heap.setIfInBounds b (.map arr' cl') } →
      Does P G tl E objs w a o .undef toks (objs.set id (.map (putMap es f (opd env k) (demote (opd env x))))) := by
    intro arr' cl' h1 h2
    obtain ⟨s1, s2, s3, s4⟩ := map_turn (cl' := cl') hs e2 e3 e5 h1
    refine ⟨Go.undef, _, G, tl, .inr ⟨?_, rfl⟩, .undef (fun _ => nofun), flatTok (by simp) (by simp), GLe.refl G, TLe.refl tl w, s1, s2, fun b2 hb2 hno => s3 b2 ?_, fun i b2 hb2 => .inr (s4 i b2 hb2), fun _ _ _ h => h⟩
    · simp [execOp, hop, h2]
    · rintro rfl
      exact hno ⟨id, 0, 0, .inr ⟨rfl, es, e2⟩, e3⟩
  rcases find_now hk es arr.toList 0 f (by simpa using e6.1) (fun j h1 h2 => by simpa using e6.2 j h1 (by simpa using h2)) hf with ⟨r0, r1⟩ | ⟨j, e, u, r0, r1, r2, r3, r4⟩
  · subst r0
    refine fin (arr.push ⟨a.eval k, a.eval x, cl⟩) (cl + 1) (ent_push e6 hk hv) ?_
    rw [e4]
    simp [Instr.mapUpdate, run_underlying hu, MapKept.run_getObj_map e5, keyOk_run hk hc.1 hd, MapKept.run_findKey hd r1, MapKept.run_setObj_map _ e5, Result.andThen]
  · subst r0
    have hj : arr[j]? = some e := by simpa using r2
    rw [Nat.zero_add] at r1
    simp only [Nat.zero_add] at fin ⊢
    refine fin _ cl (ent_set e6 hk hv) ?_
    rw [e4]
    have hst : (Instr.keyThatStays (a.eval k) (a.eval k)).run P w = .ok (a.eval k) w := by simp [Instr.keyThatStays, keyOk_same hk hc.1]
    simp [Instr.mapUpdate, run_underlying hu, MapKept.run_getObj_map e5, keyOk_run hk hc.1 hd, MapKept.run_findKey hd r1, hj, r3, hst, MapKept.run_setObj_map _ e5, Result.andThen]
theorem copy_ok {o : Oper} {args : Array Operand} {ats : Array TypeId} {t t2 e : TypeId} {x y : Operand} {id ver off len n m : Nat} {cs ys : List V} {news : List Value} (he : EnvR G tl E w env a) (hs : Store G tl E toks objs w)
    (hop : o.op = .call { callee := .builtin .copy, args := args, argTypes := ats }) (hat : ats.toList = [t, t2]) (har : args.toList = [x, y]) (hu : P.underlying t = some (.slice e)) (hn : sizeOf? P e = some n) (hn0 : 0 < n)
    (hsrc : Src P n t2 (a.eval y) m news w) (hnl : news.length = ys.length) (hym : ys.length = m * n) (hyv : ∀ j (h1 : j < ys.length) (h2 : j < news.length), VR G w (ys[j]'h1) (news[j]'h2))
    (hk : opd env x = .ref id ver off len n) (hg : getObj objs id ver = some cs) (hfit : ys.length ≤ len * n) (hlen : off + len * n ≤ cs.length) :
    Does P G tl E objs w a o (.int .i64 m) toks (objs.set id (.cells (setCells cs off ys) ver)) := by
  have hx := opd_vr he x
  rw [hk] at hx
  obtain ⟨b, o', cap, p, arr0, el0, fz0, ex, hloc, hlc, hhb, hp, hsp⟩ := hx.ref_inv
  obtain ⟨b2, o2, arr, el, h1, h2, h3, h4, h5, h6⟩ := obj_cell hs hg
  rw [hloc] at h2
  injection h2 with h2
  injection h2 with e1 e2
  subst e1; subst e2
  have hml : m ≤ len := Nat.le_of_mul_le_mul_right (by omega) hn0
  have hnews : ∀ j (h : j < news.length), news.getD j Go.undef = news[j] := fun j h => by rw [List.getD_eq_getElem?_getD, List.getElem?_eq_getElem h]; rfl
  have hmin : Nat.min m len = m := Nat.min_eq_left hml
  have hat2 : ats = #[t, t2] := by cases ats; simp_all
  have har2 : args = #[x, y] := by cases args; simp_all
  subst hat2; subst har2
  obtain ⟨arr', g1, g2, g3, g4, g5, g6, g7, g8⟩ := setCells_spec b news (o' + off) w arr el (0, 0) h3.at_ (by have := h3.fit; omega)
  have hwr : Wrote G b arr arr' el w (w.setCells b (o' + off) news) := ⟨h3.at_, g1, g2, fun x hx => absurd hx (h6 x), g4, g5, g6, g7, g8⟩
  have hst : (storeCells ⟨b, p, none⟩ news).run P w = .ok () (w.setCells b (o' + off) news) := by
    by_cases hz : news = []
    · subst hz
      rfl
    · have hpos : 0 < news.length := List.length_pos_iff.2 hz
      have hlp : 0 < len := by
        rcases Nat.eq_zero_or_pos len with q | q
        · rw [q, Nat.zero_mul] at hfit; omega
        · exact q
      have hpe := hp (by omega)
      have hst := run_storeCells_cells (P := P) b (o' + off) news 0 w (fun j hj => by
          unfold World.cell?; simp only [h3.at_]
          have : o' + off + j < arr.size := by have := h3.fit; omega
          simp [this]) (fun j hj => by unfold World.frozen?; simp [h3.at_]) hsrc.one
      rw [hpe]
      simpa using hst
  have hrun : (Builtin.copy_ #[t, t2] o.type #[a.eval x, a.eval y]).run P w = .ok (goInt m) (w.setCells b (o' + off) news) := by
    rw [ex]
    unfold Builtin.copy_
    simp only [Sem.run_bind, run_underlying hu, Result.andThen_ok, hsrc.len w, hmin, size_run hn, hsrc.cells, Sem.run_pure, hst, List.getElem?_toArray, List.getElem?_cons_zero, List.getElem?_cons_succ]
  have hlen2 := setCells_length (show off + ys.length ≤ cs.length by omega)
  obtain ⟨s1, s2⟩ := obj_turn (G' := G) (ver' := ver) (cs' := setCells cs off ys) (arr' := arr') (el' := el) hs h1 hloc (Nat.le_refl _) (fun _ _ _ => rfl) hloc rfl (GLe.refl G) hwr.wle
    (fun k o2 hk hne => (g4 k hne).trans hk) (.inl rfl) ⟨g1, by rw [hlen2, g2]; exact h3.fit⟩ (fun j hj => by
      have hj' : j < cs.length := by rw [hlen2] at hj; exact hj
      have := set_vr (f := fun j => arr.getD (o' + j) Go.undef) (g := fun j => news.getD j Go.undef) (show off + ys.length ≤ cs.length by omega) h5 (fun j hj => by rw [hnews j (by omega)]; exact hyv _ _ _) j hj
      refine VR.mono ?_ (GLe.refl G) hwr.wle
      rw [g3 (o' + j)]
      by_cases hc : off ≤ j ∧ j < off + ys.length
      · rw [if_pos hc] at this
        rw [if_pos (by omega), show o' + j - (o' + off) = j - off by omega]; exact this
      · rw [if_neg hc] at this
        rw [if_neg (by omega)]; exact this) h6
  refine ⟨goInt m, _, G, tl, .inl ?_, .int, flatTok (by simp) (by simp), GLe.refl G, TLe.refl tl w, hwr.wle, s1, fun b2 hb2 hno => ?_, fun i b2 hb2 => ?_, fun _ _ _ h => h⟩
  · simp [execOp, hop, resolve, invoke, builtin, hrun]
  · refine g4 b2 ?_
    rintro rfl
    exact hno ⟨id, .cells h1 hloc⟩
  · rcases s2 i b2 hb2 with ⟨rfl, rfl⟩ | h
    · exact .inr (.cells h1 hloc)
    · exact .inr h
set_option maxHeartbeats 1000000 in
theorem act_ok {o : Oper} {base low : Nat} {r : V × List AO × Nat} (he : EnvR G tl E w env a) (hs : Store G tl E toks objs w) (hE : E ≤ w.heap.size) (h : actV P (opd env) base objs low o.op = some r) : Does P G tl E objs w a o r.1 toks r.2.1 := by
  obtain ⟨op, hop⟩ : ∃ op, o.op = op := ⟨_, rfl⟩
  rw [hop] at h
  -- a new object
  have newobj : ∀ (arr : Array Value) (e : TypeId) (cs : List V) (v : V) (c : Value), cs.length ≤ arr.size → (∀ j (hj : j < cs.length), VR G w (cs[j]'hj) (arr.getD j Go.undef)) →
      (execOp a.eval o).run P w = .ok (.value c) { w with heap := w.heap.push (.cells arr e) } → (∀ G' : Gh, G'.loc objs.length 0 = some (w.heap.size, 0) → VR G' { w with heap := w.heap.push (.cells arr e) } v c) → (∀ k cs len, v ≠ .lst k cs len) → (∀ vs, v ≠ .tup vs) →
      Does P G tl E objs w a o v toks (objs ++ [.cells cs 0]) := by
    intro arr e cs v c h1 h2 h3 h4 h5 h6
    obtain ⟨q1, q2, q3, q4, q5⟩ := alloc_obj (e := e) hs hE h1 h2
    exact ⟨c, _, _, tl, .inl h3, h4 _ (by simp [Gh.newLoc]), flatTok h5 h6, q1, TLe.refl tl w, q2, q3, q4, q5, fun _ _ _ h => h⟩
  cases op with
  | alloc t =>
    simp only [actV] at h
    cases hz : zeroV P t with
    | none => rw [hz] at h; cases h
    | some z =>
      rw [hz] at h; cases h
      obtain ⟨v, i, z1, z2, z3, z4, z5, z6⟩ := zero_run (w := w) hz
      refine newobj v.cells t z _ (.pointer (some ⟨w.heap.size, 0, none⟩)) (by omega) (z6 G) ?_ (fun G' hl => .ptr (b := w.heap.size) (o := 0) hl) (by simp) (by simp)
      simp [execOp, hop, Instr.alloc, z3, newVar, newRow]
  | box t x =>
    simp only [actV] at h
    split at h <;> cases h
    rename_i hd
    obtain ⟨c1, c2⟩ := cells_vr (opd_vr he x).demote hd
    refine newobj (a.eval x).cells t _ _ (.pointer (some ⟨w.heap.size, 0, none⟩)) (by omega) c2 ?_ (fun G' hl => .ptr (b := w.heap.size) (o := 0) hl) (by simp) (by simp)
    simp [execOp, hop, Instr.box, newVar, newRow]
  | store t x y =>
    simp only [actV] at h
    split at h
    case h_2 => cases h
    rename_i id ver off hk
    split at h
    case h_2 => cases h
    rename_i cs n hg hn
    split at h <;> cases h
    rename_i hc
    exact store_ok hop he hs hk hg hn hc.1 hc.2.1 hc.2.2.1
  | makeMap t r =>
    simp only [actV] at h
    split at h <;> cases h
    rename_i hc
    obtain ⟨q1, q2, q3, q4, q5⟩ := alloc_map hs hE
    refine ⟨.map (some w.heap.size), _, _, tl, .inl ?_, .map (by simp [Gh.newLoc]), flatTok (by simp) (by simp), q1, TLe.refl tl w, q2, q3, q4, q5, fun _ _ _ h => h⟩
    obtain ⟨kt, et, hu⟩ : ∃ kt et, P.underlying t = some (.map kt et) := by
      have := hc.1
      unfold isMapT at this
      split at this
      · exact ⟨_, _, by assumption⟩
      · cases this
    cases r with
    | none =>
      have hr : (Instr.makeMap t none).run P w = .ok (.map (some w.heap.size)) { w with heap := w.heap.push (.map #[] 0) } := rfl
      simp [execOp, hop, hr]
    | some x =>
      have hx := opd_vr he x
      have h2 := hc.2
      simp only [Option.map_some, Option.all_some] at h2
      cases hk : opd env x <;> rw [hk] at h2 <;> simp [isIntV] at h2
      rw [hk] at hx
      have hr : (Instr.makeMap t (some (a.eval x))).run P w = .ok (.map (some w.heap.size)) { w with heap := w.heap.push (.map #[] 0) } := by
        rw [hx.int_inv]
        simp [Instr.makeMap, run_underlying hu, asInt, asIntOf, Result.andThen]
      simp [execOp, hop, hr]
  | mapUpdate t m k x => exact update_ok hop he hs (by simpa only [actV] using h)
  | makeSlice t l c =>
    simp only [actV] at h
    have hl := opd_vr he l
    have hc := opd_vr he c
    split at h
    case h_2 => cases h
    rename_i e kl la kc b hu g1 g2
    rw [g1] at hl; rw [g2] at hc
    split at h
    case h_2 => cases h
    rename_i n z hsz hz
    split at h <;> cases h
    rename_i hcnd
    obtain ⟨c0, c1, c2, c3, c4⟩ := hcnd
    obtain ⟨arr, b1, b2, b3⟩ := make_run (w := w) (G := G) (kl := kl) (kc := kc) hu hsz hz c0 c1 c2 c3 c4
    obtain ⟨zv, zi, z1, z2, z3, z4, z5, z6⟩ := zero_run (w := w) hz
    have hzl : z.length = n := by unfold sizeOf? at hsz; rw [z1] at hsz; rw [z5]; exact Option.some.inj hsz
    have hlen : (zeros z la.toNat).length = la.toNat * n := by rw [zeros_length, hzl]
    have hlen2 : (zeros z b.toNat).length = b.toNat * n := by rw [zeros_length, hzl]
    have hle : la.toNat * n ≤ b.toNat * n := Nat.mul_le_mul_right _ (by omega)
    have b3' : ∀ j (h : j < (zeros z la.toNat).length), VR G w ((zeros z la.toNat)[j]'h) (arr.getD j Go.undef) := by
      intro j hj
      have h1 := zeros_get hzl la.toNat j hj
      have hj2 : j < (zeros z b.toNat).length := by omega
      have h2 := zeros_get hzl b.toNat j hj2
      rw [← h1, List.getElem?_eq_getElem hj, List.getElem?_eq_getElem hj2] at h2
      rw [← Option.some.inj h2]
      exact b3 j hj2
    refine newobj arr e (zeros z la.toNat) _ (.slice (some ⟨w.heap.size, 0, none⟩) la.toNat b.toNat) (by omega) b3' ?_ (fun G' hl => .ref (b := w.heap.size) (o := 0) (p := 0) hl (by omega) (fun _ => rfl) heap_push_new (fun _ => by omega)) (by simp) (by simp)
    simp [execOp, hop, hl.int_inv, hc.int_inv, b1]
  | buildSlice t n parts =>
    simp only [actV] at h
    split at h
    case h_2 => cases h
    rename_i r0 hr
    split at h <;> cases h
    rename_i hlen
    unfold listV at hr
    split at hr
    case h_2 => cases hr
    rename_i e hu
    split at hr
    case h_2 => cases hr
    rename_i sz z hs1 hz
    split at hr
    case isFalse => cases hr
    rename_i hn
    cases hf : fillV (fun i => some (i * sz, sz)) (zeros z n) (parts.toList.map fun p => (p.1, demote (opd env p.2))) with
    | none => rw [hf] at hr; cases hr
    | some cs =>
      rw [hf] at hr; cases hr
      obtain ⟨hm, hv⟩ := parts_vr he parts
      obtain ⟨arr, b1, b2, b3⟩ := list_place (w := w) (G := G) hu hs1 hz hn.1 hn.2 hf hm hv
      simp only at hlen
      refine newobj arr e cs _ (.slice (some ⟨w.heap.size, 0, none⟩) n n) (by omega) b3 ?_ (fun G' hl => .ref (b := w.heap.size) (o := 0) (p := 0) hl (Nat.le_refl _) (fun _ => rfl) heap_push_new (fun _ => by show 0 + 0 + n * sz ≤ arr.size; omega)) (by simp) (by simp)
      simp only [execOp, hop, Sem.run_bind]
      have hrun' : (Instr.buildSlice t n (parts.map fun ((i, x) : Nat × Operand) => (i, a.eval x))).run P w = _ := b1
      erw [hrun']
      rfl
  | call c =>
    obtain ⟨callee, args, ats⟩ := c
    cases callee with
    | value f => simp only [actV] at h; cases h
    | invoke r m => simp only [actV] at h; cases h
    | builtin b =>
      cases b with
      | append =>
        simp only [actV] at h
        split at h
        case h_2 => cases h
        rename_i t t2 x y hat har
        split at h
        case h_2 => cases h
        rename_i e d hu hu2
        split at h
        case h_2 => cases h
        rename_i n z hsz hz
        split at h
        · cases h
        rename_i ys hys
        split at h
        · cases h
        rename_i hn
        have hn0 : 0 < n := by omega
        obtain ⟨m, news, hsrc, hnl, hym, hyv⟩ := src_of he hs hn0 hu2 hys
        have hdiv := div_len hn0 hym
        rw [hdiv] at h
        obtain ⟨zv, zi, z1, z2, z3, z4, z5, z6⟩ := zero_run (w := w) hz
        have hzin : zi.size = n := by unfold sizeOf? at hsz; rw [z1] at hsz; exact Option.some.inj hsz
        have hx := opd_vr he x
        split at h
        · rename_i hk
          rw [hk] at hx
          have ex := hx.nils_inv
          split at h
          case isFalse => cases h
          rename_i hft
          obtain ⟨i, i1, i2, i3, i4⟩ := fits_inv hft
          rw [z1] at i1; cases i1
          split at h
          · rename_i hnil; cases h
            have hm0 : m = 0 := by
              rw [hnil, List.length_nil] at hym
              rcases Nat.eq_zero_or_pos m with h | h
              · exact h
              · have := Nat.mul_pos h hn0; omega
            subst hm0
            have hnews : news = [] := List.eq_nil_of_length_eq_zero (by rw [hnl, hnil]; rfl)
            subst hnews
            refine does_same hs (c := .slice none 0 0) (append_prep hop hat har ?_) .nils (flatTok (by simp) (by simp))
            rw [ex]
            exact run_append_nothing w t t2 o.type e zi hu z1 none 0 0 (Nat.le_refl _) _ (by rw [hzin]; exact hsrc)
          · rename_i hnil; cases h
            have hm0 : 0 < m := by
              rcases Nat.eq_zero_or_pos m with h | h
              · subst h
                rw [Nat.zero_mul] at hym
                exact absurd (List.eq_nil_of_length_eq_zero hym) hnil
              · exact h
            obtain ⟨arr, cap', g1, g2, g3, g4⟩ := grow_row (ty := o.type) (cs := []) (len := 0) (cap := 0) (base := none) hu z1 z2 hzin hsrc hnl hym hyv [] rfl (by simp) (run_firstCells_none w.drew n 0 0 0) (fun j h1 => absurd h1 (by simp)) (by omega) i3 (by simpa using i4) (by rw [z4, z5, hzin])
            rw [Nat.zero_add] at g1 g2
            rw [← ex] at g1
            have hle : ys.length ≤ arr.size := by have := Nat.mul_le_mul_right n g2; omega
            obtain ⟨q1, q2, q3, q4, q5⟩ := alloc_obj (e := e) (drew_store hs) hE hle (fun j hj => (g4 j (by simpa using hj)).mono (GLe.refl G) drew_wle)
            refine ⟨_, _, _, tl, .inl (append_prep hop hat har g1), .ref (b := w.heap.size) (o := 0) (p := 0) ?_ g2 (fun _ => rfl) heap_push_new (fun _ => by omega), flatTok (by simp) (by simp), q1, TLe.refl tl w, drew_wle.trans (GLe.refl G) q2, q3, q4, q5, fun _ _ _ h => h⟩
            simp [Gh.newLoc]
        · rename_i id ver len n' hk
          rw [hk] at hx
          cases hg : getObj objs id ver with
          | none => rw [hg] at h; cases h
          | some cs =>
            rw [hg] at h
            simp only at h
            split at h <;> cases h
            rename_i hc
            obtain ⟨rfl, c2, c3, c4⟩ := hc
            obtain ⟨i, i1, i2, i3, i4⟩ := fits_inv c3
            rw [z1] at i1; cases i1
            exact refapp_ok he hs hE hop hat har hu hn0 hsrc hnl hym hyv z1 z2 hzin (by rw [z4, z5, hzin]) hk hg c2 i3 i4
        · cases h
      | copy =>
        simp only [actV] at h
        split at h
        case h_2 => cases h
        rename_i t t2 x y hat har
        split at h
        case h_2 => cases h
        rename_i e d hu hu2
        split at h
        case h_2 => cases h
        rename_i n hsz
        unfold copyV at h
        split at h
        · cases h
        rename_i ys hys
        split at h
        case h_2 => cases h
        rename_i id ver off len n' hk
        split at h
        case h_2 => cases h
        rename_i cs hg
        split at h <;> cases h
        rename_i hc
        obtain ⟨rfl, c1, c2, c3, c4, -⟩ := hc
        obtain ⟨m, news, hsrc, hnl, hym, hyv⟩ := src_of he hs c1 hu2 hys
        rw [div_len c1 hym]
        exact copy_ok he hs hop hat har hu hsz c1 hsrc hnl hym hyv hk hg c3 c4
      | _ => simp only [actV] at h; cases h
  | _ => simp only [actV] at h; cases h
end
end Go.Ab

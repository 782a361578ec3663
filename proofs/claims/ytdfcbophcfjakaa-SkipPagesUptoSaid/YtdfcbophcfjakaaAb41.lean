import Derived.Test.YtdfcbophcfjakaaAb40
set_option linter.unusedSimpArgs false
set_option linter.unusedVariables false
set_option linter.unusedSectionVars false
/- A contract over rows that are told serves for rows that are held in objects, where it answers scalars or new rows of scalars. -/
namespace Go.Ab
/-- A held row as a told one. -/
def toldV (objs : List AO) : V → V
  | .ref id ver off n 1 => match getObj objs id ver with
    | some cs => if off + n ≤ cs.length ∧ norefs 0 ((cs.drop off).take n) = true then .lst .frozen ((cs.drop off).take n) n else .ref id ver off n 1
    | none => .ref id ver off n 1
  | v => v
theorem toldV_cases (objs : List AO) (v : V) : toldV objs v = v ∨ ∃ id ver off n cs, v = .ref id ver off n 1 ∧ getObj objs id ver = some cs ∧ off + n ≤ cs.length ∧ norefs 0 ((cs.drop off).take n) = true ∧ toldV objs v = .lst .frozen ((cs.drop off).take n) n := by
  unfold toldV
  split
  · split
    · split
      · rename_i h1 h2; exact .inr ⟨_, _, _, _, _, rfl, h1, h2.1, h2.2, rfl⟩
      · exact .inl rfl
    · exact .inl rfl
  · exact .inl rfl
theorem told_R {k : IntKind} {objs : List AO} {v : V} {l : List Int} (h : ofIntsR k objs v = some l) : ofInts k (toldV objs v) = some l ∧ noref 0 (toldV objs v) = true := by
  rcases ofIntsR_inv h with h | ⟨id, ver, off, cs, rfl, h1, h2, h3⟩
  · rcases ofInts_inv h with rfl | ⟨h, -, -⟩
    · rename_i h'
      have e : toldV objs (.lst .frozen (ints k l) l.length) = .lst .frozen (ints k l) l.length := rfl
      rw [e]; exact ⟨h', by simp [noref]⟩
    · subst h
      rename_i h'
      exact ⟨h', rfl⟩
  · have e : toldV objs (.ref id ver off l.length 1) = .lst .frozen (ints k l) l.length := by
      simp only [toldV, h1]
      rw [if_pos ⟨h3, by rw [h2]; exact ints_refs⟩, h2]
    rw [e]
    exact ⟨ofInts_lst rfl, by simp [noref]⟩
/-- Everything there is, stable, and no object known. -/
def Gh.all (w : World) : Gh := ⟨fun _ _ => none, fun b _ => b < w.heap.size⟩
theorem told_vr {G : Gh} {E : Nat} {objs : List AO} {w : World} (hs : Store G noTl E [] objs w) {v : V} {c : Value} (h : VR G w v c) (hn : noref 0 (toldV objs v) = true) : VR (Gh.all w) w (toldV objs v) c := by
  have hg : GLe (G.cut 0) (Gh.all w) := ⟨fun id ver p hp => by unfold Gh.cut at hp; simp at hp, fun b o ho => hs.lt b o ho⟩
  rcases toldV_cases objs v with e | ⟨id, ver, off, n, cs, rfl, h1, h2, h3, e⟩
  · rw [e] at hn ⊢
    exact (h.cut hn).mono hg (WLe.refl _ w)
  · rw [e]
    cases h with
    | ref hloc hl hp hb hsz =>
    rename_i b o cap p arr el fz
    obtain ⟨b', o', arr', el', q1, q2, q3, q4⟩ := hs.cellsR id cs ver (getObj_get h1)
    rw [q1] at hloc
    cases hloc
    have hb' := q2.at_
    rw [hb] at hb'
    cases hb'
    have hlt := lt_of_get hb
    have hcl : ((cs.drop off).take n).length = n := by rw [List.length_take, List.length_drop]; omega
    refine .lst (fun j => arr.getD (o + off + j) Go.undef) hl (fun j hj => hlt) (fun j hj => ?_) (fun j hj => ?_)
    · rw [hcl] at hj
      have hp' := hp (by omega)
      subst hp'
      have e1 : ((⟨b, o + off, none⟩ : Addr).add j) = ⟨b, o + off + j, none⟩ := by unfold Addr.add; split <;> simp_all
      rw [e1]
      have hf := q2.fit
      unfold World.cell?
      rw [hb]
      have hk : o + off + j < arr.size := by omega
      simp [Array.getD, hk]
    · have hj' := hj
      rw [hcl] at hj'
      have e2 : ((cs.drop off).take n)[j]'hj = cs[off + j]'(by omega) := by simp
      rw [Nat.add_assoc]
      have hn2 := norefs_get h3 j hj
      rw [e2] at hn2 ⊢
      exact ((q3 (off + j) (by omega)).cut hn2).mono hg (WLe.refl _ w)
theorem told_ar {G : Gh} {E : Nat} {objs : List AO} {w : World} (hs : Store G noTl E [] objs w) : ∀ {args : List V} {cs : List Value} (_ : AR G w args cs) (_ : norefs 0 (args.map (toldV objs)) = true), AR (Gh.all w) w (args.map (toldV objs)) cs
  | [], [], _, _ => trivial
  | v :: vs, c :: cs, h, hn => by
    rw [List.map_cons, norefs, Bool.and_eq_true] at hn
    obtain ⟨⟨h1, h2, h4⟩, h3⟩ := h
    refine ⟨⟨told_vr hs h1 hn.1, ?_, ?_⟩, told_ar hs h3 hn.2⟩
    · rcases toldV_cases objs v with e | ⟨id, ver, off, n, cs, rfl, _, _, _, e⟩
      · rw [e]; exact h2
      · rw [e]; intro k cs len q; cases q; rfl
    · rcases toldV_cases objs v with e | ⟨id, ver, off, n, cs, rfl, _, _, _, e⟩
      · rw [e]; exact h4
      · rw [e]; intro vs q; cases q
  | [], _ :: _, h, _ => h.elim
  | _ :: _, [], h, _ => h.elim
/-- Answers that hang on nothing that was there. -/
def loneV : V → Bool
  | .lst (.fresh _ _) cs _ => cs.all scalar
  | v => scalar v
def loneR : V → Bool
  | .tup vs => vs.all loneV
  | v => loneV v
theorem Back.held {G G' : Gh} {objs : List AO} {w w' : World} {v : V} {c : Value} (hs : Store G noTl w.heap.size [] objs w) (h : Back (Gh.all w) [] w v [] c w' G') (hl : loneR v = true) : Back G objs w v objs c w' ⟨G.loc, fun b x => G'.st b x ∧ (b < w.heap.size → G.st b x)⟩ := by
  have hno : ∀ b, ¬ Owned (Gh.all w) [] b := by
    rintro b ⟨id, ver, o, h1 | ⟨_, es, h1⟩, h2⟩
    · obtain ⟨cs, h1⟩ := h1; simp at h1
    · simp at h1
  have hheap : ∀ b, b < w.heap.size → w'.heap[b]? = w.heap[b]? := fun b hb => h.fr b hb (hno b)
  obtain ⟨G2, hG2⟩ : ∃ G2 : Gh, G2 = ⟨G.loc, fun b x => G'.st b x ∧ (b < w.heap.size → G.st b x)⟩ := ⟨_, rfl⟩
  rw [← hG2]
  have hloc : G2.loc = G.loc := by rw [hG2]
  have hst2 : ∀ b x, G2.st b x → G'.st b x ∧ (b < w.heap.size → G.st b x) := fun b x q => by rw [hG2] at q; exact q
  have hst : ∀ b x, b < w.heap.size → G2.st b x → G.st b x := fun b x hb hx => (hst2 b x hx).2 hb
  have hle : GLe G G2 := ⟨fun _ _ _ h => by rw [hloc]; exact h, fun b o ho => by rw [hG2]; exact ⟨h.gle.st b o (hs.lt b o ho), fun _ => ho⟩⟩
  have hcell : ∀ b x, b < w.heap.size → w'.cell? ⟨b, x, none⟩ = w.cell? ⟨b, x, none⟩ := fun b x hb => by unfold World.cell?; rw [hheap b hb]
  have hw : WLe G w w' := ⟨h.wle.size, fun b o ho => hcell b o (hs.lt b o ho), h.wle.kept, h.wle.os, h.wle.tape, h.wle.output, h.wle.oth⟩
  have hold : ∀ id b, OwnedAt G objs id b → b < w.heap.size := by
    rintro id b ⟨ver, o, ⟨cs, h1⟩ | ⟨rfl, es, h1⟩, h2⟩
    · obtain ⟨b2, o2, a2, el, q1, q2, _⟩ := hs.cellsR id cs ver h1
      rw [q1] at h2; cases h2; exact lt_of_get q2.at_
    · obtain ⟨b2, a2, cl, q1, q2, _⟩ := hs.maps.row id es h1
      rw [q1] at h2; cases h2; exact lt_of_get q2
  have hno2 : ∀ b id, w.heap.size ≤ b → ¬ OwnedAt G2 objs id b := fun b id hb q => by
    rw [hG2] at q
    have := hold id b q; omega
  have part : ∀ v c, loneV v = true → PartOk G' [] w.heap.size w' v c → PartOk G2 objs w.heap.size w' v c := by
    intro v c hv hp
    refine ⟨fun hf => ⟨VR.scal (G := G') ?_ (hp.1 hf).1, (hp.1 hf).2⟩, fun e th cs len he => ?_⟩
    · unfold loneV at hv
      split at hv
      · cases hf
      · exact hv
    obtain ⟨b, o, p, cap, arr, el, e1, e2, e3, e4, e5, e6, e7, e8, e9, e10, e11, e12⟩ := hp.2 e th cs len he
    subst he
    have hsc : cs.all scalar = true := hv
    refine ⟨b, o, p, cap, arr, el, e1, e2, e3, e4, e5, e6, e7, e8, fun x hx q => e9 x hx (hst2 b x q).1, fun id => hno2 b id e4, fun j hj => VR.scal (G := G') (scal_get hsc j hj) (e11 j hj), fun q => ?_⟩
    have := e12 q
    rw [e1] at this ⊢
    cases this with
    | lst f k1 k2 k3 k4 => exact .lst f k1 (fun j hj => by rw [hG2]; exact ⟨k2 j hj, fun hb => absurd (show b < w.heap.size from hb) (by omega)⟩) k3 (fun j hj => VR.scal (G := G') (scal_get hsc j hj) (k4 j hj))
  have parts : ∀ vs cs, vs.all loneV = true → PartsOk G' [] w.heap.size w' vs cs → PartsOk G2 objs w.heap.size w' vs cs := by
    intro vs
    induction vs with
    | nil => intro cs _ hp; cases cs with | nil => trivial | cons c cs => exact hp.elim
    | cons v vs ih =>
      intro cs hv hp
      rw [List.all_cons, Bool.and_eq_true] at hv
      cases cs with
      | nil => exact hp.elim
      | cons c cs => exact ⟨part v c hv.1 hp.1, ih cs hv.2 hp.2.1, hp.2.2⟩
  refine ⟨hle, hw, ⟨fun id cs ver hi => ?_, fun id cs ver hi v' hv => by rw [hloc]; exact hs.vers id cs ver hi v' hv, fun id hi v' => by rw [hloc]; exact hs.news id hi v', fun t n ht => by simp at ht, fun t n ht => by simp at ht, fun _ _ _ => rfl, fun i i' cs cs' v v' b o o' a1 a2 a3 a4 => by rw [hloc] at a3 a4; exact hs.oo i i' cs cs' v v' b o o' a1 a2 a3 a4, fun t t' n n' b o o' ht => by simp at ht, fun i cs v t n b o o' _ ht => by simp at ht, fun b x hx => h.store.lt b x (hst2 b x hx).1, fun b hb => (by obtain ⟨_, _, _, h⟩ := hb; cases h), ⟨fun id es hi => ?_, fun id es hi v' hv => by rw [hloc]; exact hs.maps.ver id es hi v' hv, fun i i' es es' b a1 a2 a3 a4 => by rw [hloc] at a3 a4; exact hs.maps.inj i i' es es' b a1 a2 a3 a4⟩⟩, fun b hb _ => hheap b hb, fun id b q => .inr (by rw [hG2] at q; exact q), hst, ?_⟩
  · obtain ⟨b, o, arr, el, q1, q2, q3, q4⟩ := hs.cellsR id cs ver hi
    have hb := lt_of_get q2.at_
    exact ⟨b, o, arr, el, by rw [hloc]; exact q1, ⟨(hheap b hb).trans q2.at_, q2.fit⟩, fun j hj => (q3 j hj).mono hle hw, fun x hx => q4 x (hst b x hb hx)⟩
  · obtain ⟨b, arr, cl, q1, q2, q3, q4⟩ := hs.maps.row id es hi
    have hb := lt_of_get q2
    exact ⟨b, arr, cl, by rw [hloc]; exact q1, (hheap b hb).trans q2, q3.mono hle hw, fun x hx => q4 x (hst b x hb hx)⟩
  · have hr := h.res
    cases v with
    | tup vs =>
      obtain ⟨as, e, hp⟩ := hr
      exact ⟨as, e, parts vs as.toList hl hp⟩
    | _ => exact part _ _ hl hr
/-- The contract with held rows. -/
def heldF (K : Spec) : Spec := fun args objs => match K (args.map (toldV objs)) [] with
  | some (v, none) => if norefs 0 (args.map (toldV objs)) = true ∧ loneR v = true then some (v, none) else none
  | _ => none
theorem con_held {P : Program} {T : CallF} {f : FuncId} {K : Spec} (hT : CallOk P T) (hK : ∀ args objs, T f args objs = K args objs) : CallOk P (withF T f (heldF K)) := by
  intro g args objs v r hr
  unfold withF at hr
  split at hr
  case isFalse => exact hT g args objs v r hr
  rename_i hg
  subst hg
  unfold heldF at hr
  split at hr
  case h_2 => cases hr
  rename_i v' hk
  split at hr
  case isFalse => cases hr
  rename_i hn
  cases hr
  obtain ⟨-, h2⟩ := hT g (args.map (toldV objs)) [] v none (by rw [hK]; exact hk)
  refine ⟨fun _ _ h => (by cases h), fun G w cargs hs ha => ?_⟩
  have hs0 : Store (Gh.all w) noTl w.heap.size [] [] w :=
    ⟨fun id cs ver hi => by simp at hi, fun id cs ver hi => by simp at hi, fun _ _ _ => rfl, fun t n ht => by simp at ht, fun t n ht => by simp at ht, fun _ _ _ => rfl, fun i i' cs cs' v v' b o o' hi => by simp at hi, fun t t' n n' b o o' ht => by simp at ht, fun i cs v t n b o o' _ ht => by simp at ht, fun b x hx => hx, fun b hb => (by obtain ⟨_, _, _, h⟩ := hb; cases h), ⟨fun id es hi => by simp at hi, fun id es hi => by simp at hi, fun i i' es es' b hi => by simp at hi⟩⟩
  exact (h2 (Gh.all w) w cargs hs0 (told_ar hs ha hn.1)).mono fun c w' ⟨G', hb⟩ => ⟨_, Back.held hs hb hn.2⟩
theorem heldF_of {K : Spec} {args args' : List V} {objs : List AO} {v : V} (ha : args.map (toldV objs) = args') (h : K args' [] = some (v, none)) (hn : norefs 0 args' = true) (hl : loneR v = true) : heldF K args objs = some (v, none) := by unfold heldF; rw [ha, h]; simp [hn, hl]
theorem toldV_ref {objs : List AO} {id ver off n : Nat} {cs : List V} (h : getObj objs id ver = some cs) (hf : off + n ≤ cs.length) (hn : norefs 0 ((cs.drop off).take n) = true) : toldV objs (.ref id ver off n 1) = .lst .frozen ((cs.drop off).take n) n := by
  unfold toldV
  simp only [h]
  rw [if_pos ⟨hf, hn⟩]
/-- What is told stays told. -/
theorem toldV_keep {O O' : List AO} {v : V} (h : noref 0 (toldV O v) = true) (hk : ∀ id ver off n cs, v = .ref id ver off n 1 → getObj O id ver = some cs → getObj O' id ver = some cs) : toldV O' v = toldV O v := by
  rcases toldV_cases O v with e | ⟨id, ver, off, n, cs, rfl, h1, h2, h3, e⟩
  · rw [e] at h
    cases v with
    | ref id ver off n e => simp [noref] at h
    | _ => rw [e]; rfl
  · rw [e, toldV_ref (hk _ _ _ _ _ rfl h1) h2 h3]
end Go.Ab

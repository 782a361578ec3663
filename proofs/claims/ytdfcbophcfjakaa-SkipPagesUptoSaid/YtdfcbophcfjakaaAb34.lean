import Derived.Test.YtdfcbophcfjakaaAb33
set_option linter.unusedSimpArgs false
set_option linter.unusedVariables false
set_option linter.unusedSectionVars false
/- A contract that is known without objects serves with any. -/
namespace Go.Ab
theorem Entered.mono {P : Program} {g : FuncId} {cargs : Array Value} {w : World} {R R' : Value → World → Prop} (h : Entered P g cargs w R) (k : ∀ c w', R c w' → R' c w') : Entered P g cargs w R' := by
  rcases h with ⟨h1, h2⟩ | ⟨c, w', h1, h2⟩
  · refine .inl ⟨h1, h2.mono fun e w' q => ?_⟩
    cases e with
    | returned c => exact k c w' q
    | _ => exact q
  · exact .inr ⟨c, w', h1, k c w' h2⟩
theorem cut_ar {G : Gh} {w : World} {b : Nat} : ∀ {args : List V} {cs : List Value} (_ : AR G w args cs) (_ : norefs b args = true), AR (G.cut b) w args cs
  | [], [], _, _ => trivial
  | v :: vs, c :: cs, h, hn => by
    rw [norefs, Bool.and_eq_true] at hn
    obtain ⟨⟨h1, h2⟩, h3⟩ := h
    exact ⟨⟨h1.cut hn.1, h2⟩, cut_ar h3 hn.2⟩
  | [], _ :: _, h, _ => h.elim
  | _ :: _, [], h, _ => h.elim
/-- What came back with fewer objects known, with all that are. -/
theorem Back.wide {G G' : Gh} {objs : List AO} {w w' : World} {v : V} {c : Value} (hs : Store G noTl w.heap.size [] objs w) (h : Back (G.cut 0) [] w v [] c w' G') : Back G objs w v objs c w' ⟨G.loc, G'.st⟩ := by
  have hno : ∀ b, ¬ Owned (G.cut 0) [] b := by
    rintro b ⟨id, ver, o, h1 | ⟨_, es, h1⟩, h2⟩
    · obtain ⟨cs, h1⟩ := h1; simp at h1
    · simp at h1
  have hheap : ∀ b, b < w.heap.size → w'.heap[b]? = w.heap[b]? := fun b hb => h.fr b hb (hno b)
  have hst : ∀ b x, b < w.heap.size → G'.st b x → G.st b x := fun b x hb hx => h.stn b x hb hx
  have hle : GLe G ⟨G.loc, G'.st⟩ := ⟨fun _ _ _ h => h, fun b o ho => h.gle.st b o ho⟩
  have hw : WLe G w w' := ⟨h.wle.size, fun b o ho => h.wle.cell b o ho, h.wle.kept, h.wle.os, h.wle.tape, h.wle.output, h.wle.oth⟩
  have hle2 : GLe G' ⟨G.loc, G'.st⟩ := ⟨fun id ver p hp => (by rw [h.store.news id (Nat.zero_le _) ver] at hp; cases hp), fun _ _ h => h⟩
  have hold : ∀ id b, OwnedAt G objs id b → b < w.heap.size := by
    rintro id b ⟨ver, o, ⟨cs, h1⟩ | ⟨rfl, es, h1⟩, h2⟩
    · obtain ⟨b2, o2, a2, el, q1, q2, _⟩ := hs.cellsR id cs ver h1
      rw [q1] at h2; cases h2; exact lt_of_get q2.at_
    · obtain ⟨b2, a2, cl, q1, q2, _⟩ := hs.maps.row id es h1
      rw [q1] at h2; cases h2; exact lt_of_get q2
  have hno2 : ∀ b id, w.heap.size ≤ b → ¬ OwnedAt ⟨G.loc, G'.st⟩ objs id b := fun b id hb q => by
    have := hold id b q; omega
  have part : ∀ v c, PartOk G' [] w.heap.size w' v c → PartOk ⟨G.loc, G'.st⟩ objs w.heap.size w' v c := by
    intro v c hp
    refine ⟨fun hf => ⟨(hp.1 hf).1.mono hle2 (WLe.refl _ _), (hp.1 hf).2⟩, fun e th cs len he => ?_⟩
    obtain ⟨b, o, p, cap, arr, el, e1, e2, e3, e4, e5, e6, e7, e8, e9, e10, e11, e12⟩ := hp.2 e th cs len he
    exact ⟨b, o, p, cap, arr, el, e1, e2, e3, e4, e5, e6, e7, e8, e9, fun id => hno2 b id e4, fun j hj => (e11 j hj).mono hle2 (WLe.refl _ _), fun q => (e12 q).mono hle2 (WLe.refl _ _)⟩
  have parts : ∀ vs cs, PartsOk G' [] w.heap.size w' vs cs → PartsOk ⟨G.loc, G'.st⟩ objs w.heap.size w' vs cs := by
    intro vs
    induction vs with
    | nil => intro cs hp; cases cs with | nil => trivial | cons c cs => exact hp.elim
    | cons v vs ih =>
      intro cs hp
      cases cs with
      | nil => exact hp.elim
      | cons c cs => exact ⟨part v c hp.1, ih cs hp.2.1, hp.2.2⟩
  refine ⟨hle, hw, ⟨fun id cs ver hi => ?_, hs.vers, hs.news, fun t n ht => by simp at ht, fun t n ht => by simp at ht, fun _ _ _ => rfl, hs.oo, fun t t' n n' b o o' ht => by simp at ht, fun i cs v t n b o o' _ ht => by simp at ht, fun b x hx => h.store.lt b x hx, fun b hb => (by obtain ⟨_, _, _, h⟩ := hb; cases h), ⟨fun id es hi => ?_, hs.maps.ver, hs.maps.inj⟩⟩, fun b hb _ => hheap b hb, fun id b q => .inr q, hst, ?_⟩
  · obtain ⟨b, o, arr, el, q1, q2, q3, q4⟩ := hs.cellsR id cs ver hi
    have hb := lt_of_get q2.at_
    exact ⟨b, o, arr, el, q1, ⟨(hheap b hb).trans q2.at_, q2.fit⟩, fun j hj => (q3 j hj).mono hle hw, fun x hx => q4 x (hst b x hb hx)⟩
  · obtain ⟨b, arr, cl, q1, q2, q3, q4⟩ := hs.maps.row id es hi
    have hb := lt_of_get q2
    exact ⟨b, arr, cl, q1, (hheap b hb).trans q2, q3.mono hle hw, fun x hx => q4 x (hst b x hb hx)⟩
  · have hr := h.res
    cases v with
    | tup vs =>
      obtain ⟨as, e, hp⟩ := hr
      exact ⟨as, e, parts vs as.toList hp⟩
    | _ => exact part _ _ hr
/-- The contract with any objects. -/
def anyF (K : Spec) : Spec := fun args objs => match K args [] with
  | some (v, none) => if norefs 0 args = true then some (v, none) else none
  | _ => none
theorem con_any {P : Program} {T : CallF} {f : FuncId} {K : Spec} (hT : CallOk P T) (hK : ∀ args objs, T f args objs = K args objs) : CallOk P (withF T f (anyF K)) := by
  intro g args objs v r hr
  unfold withF at hr
  split at hr
  case isFalse => exact hT g args objs v r hr
  rename_i hg
  subst hg
  unfold anyF at hr
  split at hr
  case h_2 => cases hr
  rename_i v' hk
  split at hr
  case isFalse => cases hr
  rename_i hn
  cases hr
  obtain ⟨-, h2⟩ := hT g args [] v none (by rw [hK]; exact hk)
  refine ⟨fun _ _ h => (by cases h), fun G w cargs hs ha => ?_⟩
  have hs0 : Store (G.cut 0) noTl w.heap.size [] [] w := by
    have := hs.cut (E' := w.heap.size) (base := 0) (Nat.zero_le _) (fun id x hi => by omega)
    rwa [List.take_zero] at this
  exact (h2 (G.cut 0) w cargs hs0 (cut_ar ha hn)).mono fun c w' ⟨G', hb⟩ => ⟨_, Back.wide hs hb⟩
theorem anyF_of {K : Spec} {args : List V} {objs : List AO} {v : V} (h : K args [] = some (v, none)) (hn : norefs 0 args = true) : anyF K args objs = some (v, none) := by unfold anyF; rw [h]; simp [hn]
end Go.Ab

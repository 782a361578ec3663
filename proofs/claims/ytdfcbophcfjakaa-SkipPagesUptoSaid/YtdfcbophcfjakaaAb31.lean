import Derived.Test.YtdfcbophcfjakaaAb30
import Derived.Lib.Bytealg
import Derived.Lib.BytesEntry
set_option linter.unusedSimpArgs false
set_option linter.unusedVariables false
set_option linter.unusedSectionVars false
/- Functions without code, of whose answers the model tells. -/
namespace Go.Ab
theorem read_bytes {P : Program} {G : Gh} {w : World} {objs : List AO} {v : V} {c : Value} {l : List Int} (hs : Store G noTl w.heap.size [] objs w) (hv : VR G w v c) (h : ofIntsR .u8 objs v = some l) : (Extern.Bytes.bytesOf c).run P w = .ok ⟨(Lib.bytesOf l).toArray⟩ w := by
  have load : ∀ (a : Addr) (n cap : Nat), n = l.length → (∀ j x, l[j]? = some x → w.cell? (a.add j) = some (.int .u8 x)) → (Extern.Bytes.bytesOf (.slice (some a) n cap)).run P w = .ok ⟨(Lib.bytesOf l).toArray⟩ w := by
    intro a n cap hn hc
    have hb := Lib.run_loadBytesX (P := P) w l a .empty hc
    subst hn
    simp only [Extern.Bytes.bytesOf]
    rw [hb]
    congr 1
    apply ByteArray.ext
    show (#[] : Array UInt8) ++ (Lib.bytesOf l).toArray = (Lib.bytesOf l).toArray
    simp
  rcases ofIntsR_inv h with h | ⟨id, ver, off, cs, rfl, hg, hrow, -⟩
  · rcases ofInts_inv h with rfl | ⟨rfl, h1, h2⟩
    · cases hv with
      | lst f hl hst hc hv =>
        refine load _ _ _ rfl fun j x hj => ?_
        obtain ⟨hjl, hx⟩ := List.getElem?_eq_some_iff.1 hj
        rw [hc j (by simpa using hjl)]
        have := hv j (by simpa using hjl)
        have e : (ints .u8 l)[j]'(by simpa using hjl) = .int .u8 x := by simp [ints, hx]
        rw [e] at this
        rw [this.int_inv]
    · have hl : l = [] := List.eq_nil_of_length_eq_zero h2
      subst hl
      cases hv
      rfl
  · unfold Ab.getObj at hg
    split at hg
    case h_2 => cases hg
    rename_i cs' v' hid
    split at hg
    case isFalse => cases hg
    rename_i hvv
    cases hg; subst hvv
    obtain ⟨b0, o0, arr0, el0, g1, g2, g3, g4⟩ := hs.cellsR id _ _ hid
    cases hv with
    | @ref _ _ _ _ _ b o cap p arr el fz hloc hl hp hb hss =>
      rw [hloc] at g1
      obtain ⟨rfl, rfl⟩ := Prod.mk.inj (Option.some.inj g1)
      refine load _ _ _ rfl fun j x hj => ?_
      obtain ⟨hjl, hx⟩ := List.getElem?_eq_some_iff.1 hj
      have hcap : 0 < cap := by omega
      have hp' := hp hcap
      have hat := g2.at_
      rw [hb] at hat
      obtain ⟨rfl, rfl, rfl⟩ := Obj.cells.inj (Option.some.inj hat)
      have hfit := g2.fit
      have hr := row_get hrow hjl
      have hxx : nth l j = x := by rw [nth_lt hjl]; exact hx
      rw [hxx] at hr
      obtain ⟨hlt, he⟩ := List.getElem?_eq_some_iff.1 hr
      have hjs : o + (off + j) < arr.size := by omega
      have q := g3 (off + j) hlt
      rw [he] at q
      have q := q.int_inv
      rw [add_mk, hp', Nat.add_assoc]
      unfold World.cell?
      simp only [hb]
      rw [Array.getD_eq_getD_getElem?, Array.getElem?_eq_getElem hjs] at q
      simp only [Option.getD_some] at q
      simp [hjs, q]
theorem con_ext {P : Program} {T : CallF} {f : FuncId} {fn : Func} {F : Spec} (e : Array Value → Sem Value) (hT : CallOk P T) (hfn : P.funcs[f]? = some fn) (hname : (fn.name == "runtime.NumGoroutine") = false) (hb : fn.body = none) (hn : Extern.findNext fn = none) (he : Extern.find fn = some e)
    (h : ∀ args objs r, F args objs = some r → r.2 = none ∧ scalar r.1 = true ∧ ∀ (G : Gh) (w : World) (cargs : Array Value), Store G noTl w.heap.size [] objs w → AR G w args cargs.toList → ∃ c, (e cargs).run P w = .ok c w ∧ VR G w r.1 c) : CallOk P (withF T f F) := by
  intro g args objs v r hr
  unfold withF at hr
  split at hr
  · rename_i hg; subst hg
    obtain ⟨h1, h2, h3⟩ := h args objs _ hr
    simp only at h1 h2
    subst h1
    refine ⟨fun _ _ he => (by cases he), fun G w cargs hs ha => ?_⟩
    obtain ⟨c, k1, k2⟩ := h3 G w cargs hs ha
    have hx := run_callFunc_extern (P := P) hfn hname (by rw [hb]; rfl) hn he cargs w
    rw [k1] at hx
    refine .inr ⟨c, w, hx, G, GLe.refl G, WLe.refl G w, hs, fun _ _ _ => rfl, fun _ _ q => .inr q, fun _ _ _ q => q, ?_⟩
    have hp : PartOk G objs w.heap.size w v c := by
      refine ⟨fun _ => ⟨k2, fun k cs len q => ?_, fun vs q => ?_⟩, fun e th cs len q => ?_⟩
      · subst q; cases h2
      · subst q; cases h2
      · subst q; cases h2
    cases v <;> first | exact hp | cases h2
  · exact hT g args objs v r hr
section
variable {P : Program} {A : Ann} {T : CallF} {f : FuncId} {base : Nat} {ops : Array Oper} {s : St} {d : Option Nat} {ty : TypeId} {ps : String} {af : Array Edge}
@[simp] theorem op_min2 {x y : Operand} {tys : Array TypeId} : opR P A T f base ops ⟨d, .call ⟨.builtin .min, #[x, y], tys⟩, ty, ps, af, none⟩ s = pureR s (minmax false (opd s.env x) [opd s.env y]) := rfl
@[simp] theorem op_max2 {x y : Operand} {tys : Array TypeId} : opR P A T f base ops ⟨d, .call ⟨.builtin .max, #[x, y], tys⟩, ty, ps, af, none⟩ s = pureR s (minmax true (opd s.env x) [opd s.env y]) := rfl
end
def resOf (r : Option Rs) : Option V := match r with | some (v, none) => some v | _ => none
theorem resOf_inv {r : Option Rs} {v : V} (h : resOf r = some v) : r = some (v, none) := by
  unfold resOf at h
  split at h
  · cases h; rfl
  · cases h
/-- Functions without code that have contracts. -/
theorem xok_of {P : Program} {T : CallF} {X : FuncId → Option (List V → List AO → Option V)} (hT : CallOk P T) (hx : ∀ f g args objs v, X f = some g → g args objs = some v → T f args objs = some (v, none)) : XOk P X := by
  intro f fn g args objs v _ _ h1 h2 G w cargs hs ha
  exact (hT f args objs v none (hx f g args objs v h1 h2)).2 G w cargs hs ha
end Go.Ab

import Derived.Test.YtdfcbophcfjakaaAb2
import Derived.Calls
set_option linter.unusedSimpArgs false
set_option linter.unusedVariables false
set_option linter.unusedSectionVars false
/- What an abstract value says of a machine's value; how it stays. -/
namespace Go.Ab
structure Gh where
  loc : Nat → Nat → Option (Nat × Nat)
  st : Nat → Nat → Prop
inductive VR (G : Gh) (w : World) : V → Value → Prop
  | int {k : IntKind} {n : Int} : VR G w (.int k n) (.int k n)
  | bool {b : Bool} : VR G w (.bool b) (.bool b)
  | str {s : ByteArray} : VR G w (.str s) (.string s)
  | nils : VR G w .nils (.slice none 0 0)
  | lst {k : LK} {cs : List V} {len cap : Nat} {a : Addr} (f : Nat → Value) (hl : len ≤ cap) (hst : ∀ j, j < cs.length → G.st a.block (a.off + j))
      (hc : ∀ j, j < cs.length → w.cell? (a.add j) = some (f j)) (hv : ∀ j (h : j < cs.length), VR G w (cs[j]'h) (f j)) : VR G w (.lst k cs len) (.slice (some a) len cap)
  | ref {id ver off len e b o cap p : Nat} {arr : Array Value} {el : TypeId} {fz : Nat × Nat} (hloc : G.loc id ver = some (b, o)) (hl : len ≤ cap) (hp : 0 < cap → p = o + off) (hb : w.heap[b]? = some (.cells arr el fz)) (hs : 0 < cap → o + off + cap * e ≤ arr.size) :
      VR G w (.ref id ver off len e) (.slice (some ⟨b, p, none⟩) len cap)
  | nilp : VR G w .nilp (.pointer none)
  | ptr {id ver off b o : Nat} (hloc : G.loc id ver = some (b, o)) : VR G w (.ptr id ver off) (.pointer (some ⟨b, o + off, none⟩))
  | fptr {cs : List V} {off : Nat} {a : Addr} (f : Nat → Value) (hst : ∀ j, j < cs.length → G.st a.block (a.off + j))
      (hc : ∀ j, j < cs.length → w.cell? (a.add j) = some (f j)) (hv : ∀ j (h : j < cs.length), VR G w (cs[j]'h) (f j)) : VR G w (.fptr cs off) (.pointer (some (a.add off)))
  | nilf : VR G w .nilf .nilFunc
  | fn {f : Fn} {xs ys : List V} {as bs : Array Value} (h1 : as.size = xs.length) (h2 : bs.size = ys.length) (v1 : ∀ j (h : j < xs.length), VR G w (xs[j]'h) (as.getD j undef)) (v2 : ∀ j (h : j < ys.length), VR G w (ys[j]'h) (bs.getD j undef)) :
      VR G w (.fn f xs ys) (.func f as bs)
  | nili : VR G w .nili .nilIface
  | iface {t : TypeId} {v : V} {c : Value} (h : VR G w v c) : VR G w (.iface t v) (.iface t c)
  | nilm : VR G w .nilm (.map none)
  | map {id b : Nat} (hloc : G.loc id 0 = some (b, 0)) : VR G w (.map id) (.map (some b))
  | agg {cs : List V} {as : Array Value} (h : as.size = cs.length) (hv : ∀ j (h : j < cs.length), VR G w (cs[j]'h) (as.getD j undef)) : VR G w (.agg cs) (.agg as)
  | tup {cs : List V} {as : Array Value} (h : as.size = cs.length) (hv : ∀ j (h : j < cs.length), VR G w (cs[j]'h) (as.getD j undef)) : VR G w (.tup cs) (.tuple as)
  | undef {c : Value} (h : ∀ b, c ≠ .bool b) : VR G w .undef c
structure GLe (G G' : Gh) : Prop where
  loc : ∀ id ver p, G.loc id ver = some p → G'.loc id ver = some p
  st : ∀ b o, G.st b o → G'.st b o
/-- Blocks that stand while a function runs: what a frame owes at its end, the record of a round under way. -/
def heldObj : Obj → Bool
  | .deferred _ => true
  | .loop l => decide (l.state = .busy)
  | _ => false
structure WLe (G : Gh) (w w' : World) : Prop where
  size : w.heap.size ≤ w'.heap.size
  cell : ∀ b o, G.st b o → w'.cell? ⟨b, o, none⟩ = w.cell? ⟨b, o, none⟩
  kept : ∀ (b : Nat) (arr : Array Value) (el : TypeId) (fz : Nat × Nat), w.heap[b]? = some (.cells arr el fz) → ∃ (arr' : Array Value) (fz' : Nat × Nat), w'.heap[b]? = some (.cells arr' el fz') ∧ arr'.size = arr.size
  os : w'.os = w.os
  tape : w'.tape = w.tape
  output : w'.output = w.output
  oth : ∀ (b : Nat) (o : Obj), w.heap[b]? = some o → heldObj o = true → w'.heap[b]? = some o
/-- The same, of cells alone. -/
structure WL0 (G : Gh) (w w' : World) : Prop where
  size : w.heap.size ≤ w'.heap.size
  cell : ∀ b o, G.st b o → w'.cell? ⟨b, o, none⟩ = w.cell? ⟨b, o, none⟩
  kept : ∀ (b : Nat) (arr : Array Value) (el : TypeId) (fz : Nat × Nat), w.heap[b]? = some (.cells arr el fz) → ∃ (arr' : Array Value) (fz' : Nat × Nat), w'.heap[b]? = some (.cells arr' el fz') ∧ arr'.size = arr.size
theorem WLe.to0 {G : Gh} {w w' : World} (h : WLe G w w') : WL0 G w w' := ⟨h.size, h.cell, h.kept⟩
theorem GLe.refl (G : Gh) : GLe G G := ⟨fun _ _ _ h => h, fun _ _ h => h⟩
theorem GLe.trans {A B C : Gh} (h : GLe A B) (k : GLe B C) : GLe A C := ⟨fun i v p q => k.loc i v p (h.loc i v p q), fun b o q => k.st b o (h.st b o q)⟩
theorem WLe.refl (G : Gh) (w : World) : WLe G w w := ⟨Nat.le_refl _, fun _ _ _ => rfl, fun _ arr _ fz h => ⟨arr, fz, h, rfl⟩, rfl, rfl, rfl, fun _ _ h _ => h⟩
theorem WLe.trans {G G' : Gh} {a b c : World} (h : WLe G a b) (g : GLe G G') (k : WLe G' b c) : WLe G a c :=
  ⟨Nat.le_trans h.size k.size, fun x o q => (k.cell x o (g.st x o q)).trans (h.cell x o q), fun x arr el fz q => by
    obtain ⟨a1, f1, e1, s1⟩ := h.kept x arr el fz q
    obtain ⟨a2, f2, e2, s2⟩ := k.kept x a1 el f1 e1
    exact ⟨a2, f2, e2, s2.trans s1⟩, k.os.trans h.os, k.tape.trans h.tape, k.output.trans h.output, fun x o q hq => k.oth x o (h.oth x o q hq) hq⟩
theorem spot_of {w : World} {a : Addr} {v : Value} (h : w.cell? a = some v) : a.spot = none := by
  unfold World.cell? at h
  split at h
  · cases hs : a.spot
    · rfl
    · simp [hs] at h
  · cases h
theorem add_spot {a : Addr} {j : Nat} (h : (a.add j).spot = none) : a.add j = ⟨a.block, a.off + j, none⟩ := by
  unfold Addr.add at *
  split
  · rename_i e; rw [if_pos e] at h; cases a; simp_all
  · rfl
theorem add_add (a : Addr) (i j : Nat) : (a.add i).add j = a.add (i + j) := by
  unfold Addr.add
  by_cases hi : i = 0
  · subst hi; simp
  · by_cases hj : j = 0
    · subst hj; simp [hi]
    · simp [hi, hj, Nat.add_assoc]
theorem cell_kept {G : Gh} {w w' : World} {a : Addr} {j : Nat} {v : Value} (hw : WL0 G w w') (hst : G.st a.block (a.off + j)) (h : w.cell? (a.add j) = some v) : w'.cell? (a.add j) = some v := by
  have e := add_spot (spot_of h)
  rw [e] at h ⊢
  rw [hw.cell _ _ hst, h]
theorem VR.mono0 {G G' : Gh} {w w' : World} {v : V} {c : Value} (h : VR G w v c) (hg : GLe G G') (hw : WL0 G w w') : VR G' w' v c := by
  induction h with
  | int => exact .int
  | bool => exact .bool
  | str => exact .str
  | nils => exact .nils
  | lst f hl hst hc hv ih => exact .lst f hl (fun j h => hg.st _ _ (hst j h)) (fun j h => cell_kept hw (hst j h) (hc j h)) (fun j h => ih j h)
  | ref hloc hl hp hb hs =>
    obtain ⟨arr', fz', e, s⟩ := hw.kept _ _ _ _ hb
    exact .ref (hg.loc _ _ _ hloc) hl hp e (fun h => by have := hs h; omega)
  | nilp => exact .nilp
  | ptr hloc => exact .ptr (hg.loc _ _ _ hloc)
  | fptr f hst hc hv ih => exact .fptr f (fun j h => hg.st _ _ (hst j h)) (fun j h => cell_kept hw (hst j h) (hc j h)) (fun j h => ih j h)
  | nilf => exact .nilf
  | fn h1 h2 v1 v2 i1 i2 => exact .fn h1 h2 i1 i2
  | nili => exact .nili
  | iface _ ih => exact .iface ih
  | nilm => exact .nilm
  | map hloc => exact .map (hg.loc _ _ _ hloc)
  | agg h hv ih => exact .agg h ih
  | tup h hv ih => exact .tup h ih
  | undef h => exact .undef h
theorem VR.mono {G G' : Gh} {w w' : World} {v : V} {c : Value} (h : VR G w v c) (hg : GLe G G') (hw : WLe G w w') : VR G' w' v c := h.mono0 hg hw.to0
/-- The ghost without the objects from 'b' on. -/
def Gh.cut (G : Gh) (b : Nat) : Gh := ⟨fun id ver => if id < b then G.loc id ver else none, G.st⟩
theorem norefs_get {b : Nat} : ∀ {cs : List V} (_ : norefs b cs = true) (j : Nat) (h : j < cs.length), noref b (cs[j]'h) = true
  | [], _, j, h => absurd h (by simp)
  | v :: vs, hb, j, h => by
    rw [norefs, Bool.and_eq_true] at hb
    cases j with
    | zero => exact hb.1
    | succ j => exact norefs_get hb.2 j (by simpa using h)
theorem VR.cut {G : Gh} {w : World} {v : V} {c : Value} {b : Nat} (h : VR G w v c) (hb : noref b v = true) : VR (G.cut b) w v c := by
  revert hb
  induction h with
  | int => exact fun _ => .int
  | bool => exact fun _ => .bool
  | str => exact fun _ => .str
  | nils => exact fun _ => .nils
  | lst f hl hst hc hv ih => exact fun hb => .lst f hl hst hc (fun j h => ih j h (norefs_get (by simpa [noref] using hb) j h))
  | ref hloc hl hp hb2 hs => exact fun hb => .ref (by simp only [Gh.cut]; rw [if_pos (by simpa [noref] using hb)]; exact hloc) hl hp hb2 hs
  | nilp => exact fun _ => .nilp
  | ptr hloc => exact fun hb => .ptr (by simp only [Gh.cut]; rw [if_pos (by simpa [noref] using hb)]; exact hloc)
  | fptr f hst hc hv ih => exact fun hb => .fptr f hst hc (fun j h => ih j h (norefs_get (by simpa [noref] using hb) j h))
  | nilf => exact fun _ => .nilf
  | fn h1 h2 v1 v2 i1 i2 => exact fun hb => .fn h1 h2 (fun j h => i1 j h (norefs_get (by simp [noref] at hb; exact hb.1) j h)) (fun j h => i2 j h (norefs_get (by simp [noref] at hb; exact hb.2) j h))
  | nili => exact fun _ => .nili
  | iface _ ih => exact fun hb => .iface (ih (by simpa [noref] using hb))
  | nilm => exact fun _ => .nilm
  | map hloc => exact fun hb => .map (by simp only [Gh.cut]; rw [if_pos (by simpa [noref] using hb)]; exact hloc)
  | agg h hv ih => exact fun hb => .agg h (fun j h => ih j h (norefs_get (by simpa [noref] using hb) j h))
  | tup h hv ih => exact fun hb => .tup h (fun j h => ih j h (norefs_get (by simpa [noref] using hb) j h))
  | undef h => exact fun _ => .undef h
theorem VR.demote {G : Gh} {w : World} {v : V} {c : Value} (h : VR G w v c) : VR G w (demote v) c := by
  cases h with
  | lst f hl hst hc hv => exact .lst f hl hst hc hv
  | int => exact .int
  | bool => exact .bool
  | str => exact .str
  | nils => exact .nils
  | ref hloc hl hp hb hs => exact .ref hloc hl hp hb hs
  | nilp => exact .nilp
  | ptr hloc => exact .ptr hloc
  | fptr f hst hc hv => exact .fptr f hst hc hv
  | nilf => exact .nilf
  | fn h1 h2 v1 v2 => exact .fn h1 h2 v1 v2
  | nili => exact .nili
  | iface h => exact .iface h
  | nilm => exact .nilm
  | map hloc => exact .map hloc
  | agg h hv => exact .agg h hv
  | tup h hv => exact .undef (fun _ => nofun)
  | undef h => exact .undef h
theorem VR.lk {G : Gh} {w : World} {k k' : LK} {cs : List V} {len : Nat} {c : Value} (h : VR G w (.lst k cs len) c) : VR G w (.lst k' cs len) c := by
  cases h with
  | lst f hl hst hc hv => exact .lst f hl hst hc hv
/-! the store -/
structure Own (G : Gh) (w : World) (b o n : Nat) (arr : Array Value) (el : TypeId) : Prop where
  at_ : w.heap[b]? = some (.cells arr el (0, 0))
  fit : o + n ≤ arr.size
def TB (tl : Nat → Nat → Option (Nat × Nat)) (b : Nat) : Prop := ∃ t n o, tl t n = some (b, o)
structure TLe (tl tl' : Nat → Nat → Option (Nat × Nat)) (w : World) : Prop where
  old : ∀ t n p, tl t n = some p → tl' t n = some p
  new : ∀ b, TB tl' b → TB tl b ∨ w.heap.size ≤ b
theorem TLe.refl (tl : Nat → Nat → Option (Nat × Nat)) (w : World) : TLe tl tl w := ⟨fun _ _ _ h => h, fun _ h => .inl h⟩
theorem TLe.trans {x y z : Nat → Nat → Option (Nat × Nat)} {w w' : World} (h : TLe x y w) (k : TLe y z w') (hw : w.heap.size ≤ w'.heap.size) : TLe x z w :=
  ⟨fun t n p q => k.old t n p (h.old t n p q), fun b q => (k.new b q).elim (h.new b) (fun q => .inr (Nat.le_trans hw q))⟩
/-- The entries of a map, said one by one. -/
def EntR (G : Gh) (w : World) (es : List (V × V)) (arr : Array MapEntry) : Prop := arr.size = es.length ∧ ∀ j (h : j < es.length) (h' : j < arr.size), VR G w (es[j]'h).1 (arr[j]'h').key ∧ VR G w (es[j]'h).2 (arr[j]'h').val
theorem EntR.mono0 {G G' : Gh} {w w' : World} {es : List (V × V)} {arr : Array MapEntry} (h : EntR G w es arr) (hg : GLe G G') (hw : WL0 G w w') : EntR G' w' es arr := ⟨h.1, fun j h1 h2 => ⟨(h.2 j h1 h2).1.mono0 hg hw, (h.2 j h1 h2).2.mono0 hg hw⟩⟩
theorem EntR.mono {G G' : Gh} {w w' : World} {es : List (V × V)} {arr : Array MapEntry} (h : EntR G w es arr) (hg : GLe G G') (hw : WLe G w w') : EntR G' w' es arr := h.mono0 hg hw.to0
/-- The maps among the objects. -/
structure MapsR (G : Gh) (objs : List AO) (w : World) : Prop where
  row : ∀ id es, objs[id]? = some (AO.map es) → ∃ b arr cl, G.loc id 0 = some (b, 0) ∧ w.heap[b]? = some (Obj.map arr cl) ∧ EntR G w es arr ∧ ∀ x, ¬ G.st b x
  ver : ∀ id es, objs[id]? = some (AO.map es) → ∀ v', 0 < v' → G.loc id v' = none
  inj : ∀ i i' es es' b, objs[i]? = some (AO.map es) → objs[i']? = some (AO.map es') → G.loc i 0 = some (b, 0) → G.loc i' 0 = some (b, 0) → i = i'
/-- Maps stay as they are: their blocks and places do. -/
theorem MapsR.keep0 {G G' : Gh} {objs objs' : List AO} {w w' : World} (h : MapsR G objs w) (hg : GLe G G') (hw : WL0 G w w') (hh : ∀ (b : Nat) arr cl, w.heap[b]? = some (Obj.map arr cl) → w'.heap[b]? = some (Obj.map arr cl)) (hl : ∀ (id : Nat) es (v : Nat), objs'[id]? = some (AO.map es) → G'.loc id v = G.loc id v)
    (hst : ∀ (id : Nat) es (b x : Nat) arr cl, objs[id]? = some (AO.map es) → G.loc id 0 = some (b, 0) → w.heap[b]? = some (Obj.map arr cl) → G'.st b x → G.st b x) (ho : ∀ (id : Nat) es, objs'[id]? = some (AO.map es) → objs[id]? = some (AO.map es)) : MapsR G' objs' w' := by
  refine ⟨fun id es hi => ?_, fun id es hi v' hv => ?_, fun i i' es es' b h1 h2 l1 l2 => ?_⟩
  · obtain ⟨b, arr, cl, a1, a2, a3, a4⟩ := h.row id es (ho id es hi)
    exact ⟨b, arr, cl, by rw [hl id es 0 hi]; exact a1, hh _ _ _ a2, a3.mono0 hg hw, fun x hx => a4 x (hst id es b x arr cl (ho id es hi) a1 a2 hx)⟩
  · rw [hl id es v' hi]; exact h.ver id es (ho id es hi) v' hv
  · rw [hl i es 0 h1] at l1; rw [hl i' es' 0 h2] at l2
    exact h.inj i i' es es' b (ho i es h1) (ho i' es' h2) l1 l2
theorem MapsR.keep {G G' : Gh} {objs objs' : List AO} {w w' : World} (h : MapsR G objs w) (hg : GLe G G') (hw : WLe G w w') (hh : ∀ (b : Nat) arr cl, w.heap[b]? = some (Obj.map arr cl) → w'.heap[b]? = some (Obj.map arr cl)) (hl : ∀ (id : Nat) es (v : Nat), objs'[id]? = some (AO.map es) → G'.loc id v = G.loc id v)
    (hst : ∀ (id : Nat) es (b x : Nat) arr cl, objs[id]? = some (AO.map es) → G.loc id 0 = some (b, 0) → w.heap[b]? = some (Obj.map arr cl) → G'.st b x → G.st b x) (ho : ∀ (id : Nat) es, objs'[id]? = some (AO.map es) → objs[id]? = some (AO.map es)) : MapsR G' objs' w' := h.keep0 hg hw.to0 hh hl hst ho
/-- What is owned in a frame: the objects, and the rows behind tokens. -/
structure Store (G : Gh) (tl : Nat → Nat → Option (Nat × Nat)) (E : Nat) (toks : List Nat) (objs : List AO) (w : World) : Prop where
  cellsR : ∀ id cs ver, objs[id]? = some (.cells cs ver) → ∃ b o arr el, G.loc id ver = some (b, o) ∧ Own G w b o cs.length arr el ∧ (∀ j (h : j < cs.length), VR G w (cs[j]'h) (arr.getD (o + j) undef)) ∧ (∀ x, ¬ G.st b x)
  vers : ∀ id cs ver, objs[id]? = some (.cells cs ver) → ∀ v', ver < v' → G.loc id v' = none
  news : ∀ id, objs.length ≤ id → ∀ v', G.loc id v' = none
  toksR : ∀ t n, toks[t]? = some n → ∃ b o arr el, tl t n = some (b, o) ∧ Own G w b o n arr el ∧ (∀ x, o + n ≤ x → ¬ G.st b x) ∧ E ≤ b
  tnew : ∀ t n, toks[t]? = some n → ∀ m, n < m → tl t m = none
  tnews : ∀ t, toks.length ≤ t → ∀ m, tl t m = none
  oo : ∀ i i' cs cs' v v' b o o', objs[i]? = some (.cells cs v) → objs[i']? = some (.cells cs' v') → G.loc i v = some (b, o) → G.loc i' v' = some (b, o') → i = i'
  tt : ∀ t t' n n' b o o', toks[t]? = some n → toks[t']? = some n' → tl t n = some (b, o) → tl t' n' = some (b, o') → t = t'
  ot : ∀ i cs v t n b o o', objs[i]? = some (.cells cs v) → toks[t]? = some n → G.loc i v = some (b, o) → tl t n = some (b, o') → False
  lt : ∀ b x, G.st b x → b < w.heap.size
  tbl : ∀ b, TB tl b → b < w.heap.size
  maps : MapsR G objs w
theorem Store.tb {G : Gh} {tl : Nat → Nat → Option (Nat × Nat)} {E : Nat} {toks : List Nat} {objs : List AO} {w : World} (h : Store G tl E toks objs w) : ¬ TB tl w.heap.size := fun hb => by have := h.tbl _ hb; omega
def TokOk (tl : Nat → Nat → Option (Nat × Nat)) (E : Nat) (w : World) (v : V) (c : Value) : Prop :=
  (∀ t e cs len, v = .lst (.tok t e) cs len → ∃ b o cap arr el fz, tl t cs.length = some (b, o) ∧ c = .slice (some ⟨b, o, none⟩) len cap ∧ w.heap[b]? = some (.cells arr el fz) ∧ o + cap * e ≤ arr.size ∧ cs.length = len * e) ∧
  (∀ cs len, v = .lst .lit cs len → ∃ a cap, c = .slice (some a) len cap ∧ E ≤ a.block ∧ a.block < w.heap.size ∧ ¬ TB tl a.block) ∧
  (∀ e th cs len, v ≠ .lst (.fresh e th) cs len)
def TokT (tl : Nat → Nat → Option (Nat × Nat)) (E : Nat) (w : World) (v : V) (c : Value) : Prop :=
  TokOk tl E w v c ∧ ∀ vs as, v = .tup vs → c = .tuple as → ∀ j (h : j < vs.length), TokOk tl E w (vs[j]'h) (as.getD j undef)
theorem TokOk.mono0 {tl tl' : Nat → Nat → Option (Nat × Nat)} {E : Nat} {G : Gh} {w w' : World} {v : V} {c : Value} (h : TokOk tl E w v c) (ht : TLe tl tl' w) (hw : WL0 G w w') : TokOk tl' E w' v c := by
  obtain ⟨h1, h2, h3⟩ := h
  refine ⟨fun t e cs len hv => ?_, fun cs len hv => ?_, h3⟩
  rotate_left
  · obtain ⟨a, cap, q1, q2, q3, q4⟩ := h2 cs len hv
    exact ⟨a, cap, q1, q2, Nat.lt_of_lt_of_le q3 hw.size, fun hb => (ht.new _ hb).elim q4 (fun h => absurd q3 (by omega))⟩
  obtain ⟨b, o, cap, arr, el, fz, a1, a2, a3, a4, a5⟩ := h1 t e cs len hv
  obtain ⟨arr', fz', e1, s1⟩ := hw.kept _ _ _ _ a3
  exact ⟨b, o, cap, arr', el, fz', ht.old _ _ _ a1, a2, e1, by omega, a5⟩
theorem TokT.mono0 {tl tl' : Nat → Nat → Option (Nat × Nat)} {E : Nat} {G : Gh} {w w' : World} {v : V} {c : Value} (h : TokT tl E w v c) (ht : TLe tl tl' w) (hw : WL0 G w w') : TokT tl' E w' v c :=
  ⟨h.1.mono0 ht hw, fun vs as e1 e2 j hj => (h.2 vs as e1 e2 j hj).mono0 ht hw⟩
theorem TokOk.mono {tl tl' : Nat → Nat → Option (Nat × Nat)} {E : Nat} {G : Gh} {w w' : World} {v : V} {c : Value} (h : TokOk tl E w v c) (ht : TLe tl tl' w) (hw : WLe G w w') : TokOk tl' E w' v c := h.mono0 ht hw.to0
theorem TokT.mono {tl tl' : Nat → Nat → Option (Nat × Nat)} {E : Nat} {G : Gh} {w w' : World} {v : V} {c : Value} (h : TokT tl E w v c) (ht : TLe tl tl' w) (hw : WLe G w w') : TokT tl' E w' v c := h.mono0 ht hw.to0
/-- Values that no token stands behind. -/
def plain : V → Bool
  | .lst .frozen _ _ => true
  | .lst _ _ _ => false
  | .tup vs => vs.all fun v => match v with | .lst .frozen _ _ => true | .lst _ _ _ => false | _ => true
  | _ => true
theorem demote_plain (v : V) : (∀ k cs len, demote v = .lst k cs len → k = .frozen) ∧ ∀ vs, demote v ≠ .tup vs := by
  cases v <;> simp [demote]
theorem TokOk.of {tl : Nat → Nat → Option (Nat × Nat)} {E : Nat} {w : World} {v : V} {c : Value} (h : ∀ k cs len, v = .lst k cs len → k = .frozen) : TokOk tl E w v c :=
  ⟨fun t e cs len hv => absurd (h _ _ _ hv) (by simp), fun cs len hv => absurd (h _ _ _ hv) (by simp), fun e th cs len hv => absurd (h _ _ _ hv) (by simp)⟩
theorem TokT.of {tl : Nat → Nat → Option (Nat × Nat)} {E : Nat} {w : World} {v : V} {c : Value} (h : ∀ k cs len, v = .lst k cs len → k = .frozen) (h2 : ∀ vs, v ≠ .tup vs) : TokT tl E w v c :=
  ⟨TokOk.of h, fun vs as e => absurd e (h2 vs)⟩
theorem TokT.demote {tl : Nat → Nat → Option (Nat × Nat)} {E : Nat} {w : World} {v : V} {c : Value} : TokT tl E w (Ab.demote v) c := TokT.of (demote_plain v).1 (demote_plain v).2
end Go.Ab

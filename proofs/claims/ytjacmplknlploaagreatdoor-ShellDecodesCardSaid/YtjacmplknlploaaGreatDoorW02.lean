/- How a state stands for the model's memory. Operations that only calculate. Operations on values. -/
import Derived.Test.YtjacmplknlploaaGreatDoorW01
import Derived.Laws.Slices
import Derived.Laws.BytesString
import Derived.Great.FillDense
set_option linter.all false
namespace Go.Am

abbrev Own := Nat → Nat → Option Nat

/-- The jump that a round leaves behind. -/
def X.code : X → Option Code
  | .normal => none
  | .exit id => some (.exit id)
  | .ret => some .ret

def LS.ok (l : Loop) : LS → Prop
  | .ready => l.state = .ready ∧ l.pending = none
  | .busy => l.state = .busy
  | .done x => l.state = .done ∧ l.pending.isSome = true ∧ l.pending = x.code

def _root_.Go.Obj.cellless : Go.Obj → Bool
  | .cells .. => false
  | _ => true

def ObjOk (P : Program) (ng : Nat) (w : World) (G : Gh) (own : Own) (id : Nat) : Obj → Prop
  | .cells ty cs => ∃ b c f, G.loc id = some (b, 0) ∧ w.heap[b]? = some (.cells c ty f) ∧ RepL G cs c.toList ∧ (∀ a ∈ cs, a.one = true) ∧ (∀ j, own b j = some id) ∧ G.bsz b = some c.size
  | .ro cs => ∃ b c ty f, G.loc id = some (b, 0) ∧ w.heap[b]? = some (.cells c ty f) ∧ RepL G cs c.toList ∧ (∀ a ∈ cs, a.one = true) ∧ (∀ (j : Nat) v, c[j]? = some v → G.imm b j = some v) ∧ G.bsz b = some c.size
  | .arr fl _ cs => ∃ b o c ty f, G.loc id = some (b, o) ∧ w.heap[b]? = some (.cells c ty f) ∧ o + cs.length ≤ c.size ∧ RepL G cs ((c.toList.drop o).take cs.length) ∧ (∀ a ∈ cs, a.one = true) ∧
      (∀ j, o + fl ≤ j → own b j = some id) ∧ (∀ j, o ≤ j → j < o + fl → j < o + cs.length → ∃ v, G.imm b j = some v)
  | .map es => ∃ b xs k, G.loc id = some (b, 0) ∧ w.heap[b]? = some (.map xs k) ∧ es.length = xs.size ∧
      (∀ (i : Nat) (p : AV × AV) (e : MapEntry), es[i]? = some p → xs[i]? = some e → RepV G p.1 e.key ∧ RepV G p.2 e.val) ∧ own b 0 = some id
  | .tail ty => ∃ b e c f, G.loc id = some (b, e) ∧ w.heap[b]? = some (.cells c ty f) ∧ e ≤ c.size ∧ (∀ j, e ≤ j → own b j = some id) ∧ f.2 = 0
  | .loop fr ps a b st => ∃ d l, G.loc id = some (d, 0) ∧ w.heap[d]? = some (.loop l) ∧ RepL G fr l.tmps.toList ∧ l.params.toList = ps ∧ (∃ fl, low P ng fl l.assign = some a) ∧ (∃ fl, low P ng fl l.body = some b) ∧ st.ok l ∧ own d 0 = some id
  | .dfr => ∃ d, G.loc id = some (d, 0) ∧ w.heap[d]? = some (.deferred (some [])) ∧ own d 0 = some id

/-- The memory of old is as it was, and nobody owns it. -/
structure Old (w : World) (G : Gh) (own : Own) : Prop where
  out : w.os = G.w0.os ∧ w.output = G.w0.output
  mem : ∀ i, i < G.w0.heap.size → w.heap[i]? = G.w0.heap[i]?
  own : ∀ b j id, own b j = some id → G.w0.heap.size ≤ b
  lt : G.w0.heap.size ≤ w.heap.size

structure Rel (P : Program) (ng : Nat) (s : St) (w : World) (G : Gh) (own : Own) : Prop where
  obj : ∀ id o, look s.objs id = some o → G.unb id = false → ObjOk P ng w G own id o
  imm : ∀ b j v, G.imm b j = some v → ∃ c ty f, w.heap[b]? = some (.cells c ty f) ∧ c[j]? = some v
  bsz : ∀ b n, G.bsz b = some n → ∃ c ty f, w.heap[b]? = some (.cells c ty f) ∧ c.size = n
  disj : ∀ b j id, own b j = some id → G.imm b j = none
  ord : ∀ b i j id v, G.imm b i = some v → own b j = some id → i < j
  frz : ∀ b j id c ty f, own b j = some id → w.heap[b]? = some (.cells c ty f) → f.2 ≤ j
  locf : ∀ id p, G.loc id = some p → id < s.next ∧ p.1 < w.heap.size
  ownf : ∀ b j id, own b j = some id → b < w.heap.size
  two : 2 ≤ s.next
  suf : ∀ b i j id, own b i = some id → i ≤ j → own b j = some id
  nodup : (s.objs.map Prod.fst).Nodup
  glob : Glob ng G
  unb : ∀ id, G.unb id = true → id < s.next ∧ G.loc id = none
  ownu : ∀ b j id, own b j = some id → id < s.next ∧ G.unb id = false
  old : Old w G own

theorem Rel.objL {P : Program} {ng : Nat} {s : St} {w : World} {G : Gh} {own : Own} (h : Rel P ng s w G own) {id : Nat} {o : Obj} {p : Nat × Nat} (hk : look s.objs id = some o) (hl : G.loc id = some p) : ObjOk P ng w G own id o :=
  h.obj id o hk (by
    cases hu : G.unb id with
    | false => rfl
    | true => have := (h.unb id hu).2; rw [hl] at this; cases this)

/-! Lists of objects -/

theorem look_some_mem {l : List (Nat × Obj)} {k : Nat} {o : Obj} (h : look l k = some o) : (k, o) ∈ l := by
  induction l with
  | nil => simp [look] at h
  | cons p r ih =>
    obtain ⟨i, x⟩ := p
    simp only [look] at h
    split at h
    · rename_i e; subst e; cases h; simp
    · exact List.mem_cons_of_mem _ (ih h)
theorem look_of_mem {l : List (Nat × Obj)} (hn : (l.map Prod.fst).Nodup) {k : Nat} {o : Obj} (h : (k, o) ∈ l) : look l k = some o := by
  induction l with
  | nil => simp at h
  | cons p r ih =>
    obtain ⟨i, x⟩ := p
    simp only [List.map_cons, List.nodup_cons] at hn
    simp only [look]
    rcases List.mem_cons.1 h with e | h
    · cases e; simp
    · have : i ≠ k := fun e => hn.1 (e ▸ List.mem_map_of_mem (f := Prod.fst) h)
      rw [if_neg this]; exact ih hn.2 h
theorem look_upd {l : List (Nat × Obj)} {i k : Nat} {x : Obj} : look (upd l i x) k = if i = k ∧ (look l i).isSome then some x else look l k := by
  induction l with
  | nil => simp [look, upd]
  | cons p r ih =>
    obtain ⟨j, y⟩ := p
    by_cases hj : j = i
    · subst hj
      by_cases hk : j = k
      · subst hk; simp [upd, look]
      · simp [upd, look, hk]
    · by_cases hk : j = k
      · subst hk
        have : ¬ i = j := fun e => hj e.symm
        simp [upd, look, hj, this]
      · simp [upd, look, hj, hk, ih]
theorem upd_keys {l : List (Nat × Obj)} {i : Nat} {x : Obj} : (upd l i x).map Prod.fst = l.map Prod.fst := by
  induction l with
  | nil => rfl
  | cons p r ih =>
    obtain ⟨j, y⟩ := p
    simp only [upd]
    split
    · rename_i e; simp [e]
    · simp [ih]
theorem del_sub {l : List (Nat × Obj)} {i : Nat} : (del l i).Sublist l := by
  induction l with
  | nil => exact List.Sublist.refl _
  | cons p r ih =>
    obtain ⟨j, y⟩ := p
    simp only [del]
    split
    · exact List.sublist_cons_self _ _
    · exact ih.cons_cons _
theorem look_sub {l m : List (Nat × Obj)} (h : m.Sublist l) (hn : (l.map Prod.fst).Nodup) {k : Nat} {o : Obj} (hk : look m k = some o) : look l k = some o :=
  look_of_mem hn (h.subset (look_some_mem hk))
theorem nodup_sub {l m : List (Nat × Obj)} (h : m.Sublist l) (hn : (l.map Prod.fst).Nodup) : (m.map Prod.fst).Nodup := List.Nodup.sublist (h.map _) hn
theorem look_del_ne {l : List (Nat × Obj)} (hn : (l.map Prod.fst).Nodup) {i k : Nat} {o : Obj} (h : look (del l i) k = some o) : i ≠ k ∧ look l k = some o := by
  refine ⟨?_, look_sub del_sub hn h⟩
  rintro rfl
  have hm := look_some_mem h
  clear h
  induction l with
  | nil => simp [del] at hm
  | cons p r ih =>
    obtain ⟨j, y⟩ := p
    simp only [List.map_cons, List.nodup_cons] at hn
    simp only [del] at hm
    split at hm
    · rename_i e; subst e; exact hn.1 (List.mem_map_of_mem (f := Prod.fst) hm)
    · rename_i e
      rcases List.mem_cons.1 hm with h | h
      · cases h; exact e rfl
      · exact ih hn.2 h
theorem dropN_sub {base : Nat} : ∀ {l : List (Nat × Obj)}, (dropN base l).Sublist l
  | [] => List.Sublist.refl _
  | p :: r => by
    simp only [dropN]
    cases Nat.ble base p.1
    · exact List.Sublist.refl _
    · exact (dropN_sub (l := r)).cons _
theorem dropS_sub {base : Nat} : ∀ {l : List (Nat × Obj)}, (dropS base l).Sublist l
  | [] => List.Sublist.refl _
  | p :: r => by
    simp only [dropS]
    cases Nat.ble base p.1
    · exact List.Sublist.refl _
    · cases p.2.light
      · exact (dropS_sub (l := r)).cons_cons _
      · exact (dropS_sub (l := r)).cons _
theorem drop_sub {k : Keep} {base : Nat} {l : List (Nat × Obj)} : (drop k base l).Sublist l := by
  cases k <;> simp only [drop]
  · exact dropN_sub
  · exact dropS_sub
  · exact List.Sublist.refl _

/-! What a change of memory leaves alone -/

/-- For an object, the memory is as it was. -/
structure Ch (w w' : World) (G : Gh) (own : Own) (id : Nat) : Prop where
  row : ∀ b c ty f, w.heap[b]? = some (.cells c ty f) → ∃ c', w'.heap[b]? = some (.cells c' ty f) ∧ c'.size = c.size ∧ ∀ (j : Nat), (own b j = some id ∨ ∃ v, G.imm b j = some v) → c'[j]? = c[j]?
  map : ∀ (b : Nat) x, w.heap[b]? = some x → x.cellless = true → own b 0 = some id → w'.heap[b]? = some x

theorem ObjOk.keep {P : Program} {ng : Nat} {w w' : World} {G H : Gh} {own own' : Own} {id : Nat} {o : Obj} (h : ObjOk P ng w G own id o) (hg : G.le3 H) (hc : Ch w w' G own id)
    (ho : ∀ b j, own b j = some id → own' b j = some id) : ObjOk P ng w' H own' id o := by
  cases o with
  | cells ty cs =>
    obtain ⟨b, c, f, h1, h2, h3, h4, h5, h6⟩ := h
    obtain ⟨c', e1, e2, e3⟩ := hc.row b c ty f h2
    have : c' = c := Array.ext_getElem? (fun j => e3 j (.inl (h5 j)))
    subst this
    exact ⟨b, c', f, hg.loc _ _ h1, e1, h3.mono3 hg, h4, fun j => ho _ _ (h5 j), hg.bsz _ _ h6⟩
  | ro cs =>
    obtain ⟨b, c, ty, f, h1, h2, h3, h4, h5, h6⟩ := h
    obtain ⟨c', e1, e2, e3⟩ := hc.row b c ty f h2
    have : c' = c := by
      apply Array.ext e2
      intro j hj hj'
      have := e3 j (.inr ⟨_, h5 j _ (Array.getElem?_eq_getElem hj')⟩)
      rw [Array.getElem?_eq_getElem hj, Array.getElem?_eq_getElem hj'] at this
      exact Option.some.inj this
    subst this
    exact ⟨b, c', ty, f, hg.loc _ _ h1, e1, h3.mono3 hg, h4, fun j v e => hg.imm _ _ _ (h5 j v e), hg.bsz _ _ h6⟩
  | arr fl sz cs =>
    obtain ⟨b, o, c, ty, f, h1, h2, h3, h4, h5, h6, h7⟩ := h
    obtain ⟨c', e1, e2, e3⟩ := hc.row b c ty f h2
    refine ⟨b, o, c', ty, f, hg.loc _ _ h1, e1, by omega, ?_, h5, fun j hj => ho _ _ (h6 j hj), fun j a b c => ?_⟩
    · have : (c'.toList.drop o).take cs.length = (c.toList.drop o).take cs.length := by
        apply List.ext_getElem?
        intro j
        rw [List.getElem?_take, List.getElem?_take]
        split
        · rename_i hj
          simp only [List.getElem?_drop, Array.getElem?_toList]
          by_cases hf : o + fl ≤ o + j
          · exact e3 _ (.inl (h6 _ hf))
          · exact e3 _ (.inr (h7 _ (by omega) (by omega) (by omega)))
        · rfl
      rw [this]; exact h4.mono3 hg
    · obtain ⟨v, hv⟩ := h7 j a b c
      exact ⟨v, hg.imm _ _ _ hv⟩
  | map es =>
    obtain ⟨b, xs, k, h1, h2, h3, h4, h5⟩ := h
    refine ⟨b, xs, k, hg.loc _ _ h1, hc.map b _ h2 rfl h5, h3, fun i p e x y => ?_, ho _ _ h5⟩
    obtain ⟨a1, a2⟩ := h4 i p e x y
    exact ⟨a1.mono3 hg, a2.mono3 hg⟩
  | tail ty =>
    obtain ⟨b, e, c, f, h1, h2, h3, h4, h5⟩ := h
    obtain ⟨c', e1, e2, e3⟩ := hc.row b c ty f h2
    exact ⟨b, e, c', f, hg.loc _ _ h1, e1, by omega, fun j hj => ho _ _ (h4 j hj), h5⟩
  | loop fr ps a b st =>
    obtain ⟨d, l, h1, h2, h3, h4, h5, h6, h7, h8⟩ := h
    exact ⟨d, l, hg.loc _ _ h1, hc.map d _ h2 rfl h8, h3.mono3 hg, h4, h5, h6, h7, ho _ _ h8⟩
  | dfr =>
    obtain ⟨d, h1, h2, h3⟩ := h
    exact ⟨d, hg.loc _ _ h1, hc.map d _ h2 rfl h3, ho _ _ h3⟩

/-- Objects may be forgotten. -/
theorem Rel.forget {P : Program} {ng : Nat} {s : St} {w : World} {G : Gh} {own : Own} (h : Rel P ng s w G own) {l : List (Nat × Obj)} (hs : l.Sublist s.objs) : Rel P ng ⟨l, s.next⟩ w G own :=
  { h with
    obj := fun id o hk hu => h.obj id o (look_sub hs h.nodup hk) hu
    nodup := nodup_sub hs h.nodup }

theorem Old.of_heap {w w' : World} {G : Gh} {own : Own} (h : Old w G own) (e : w'.heap = w.heap) (ho : w'.os = w.os ∧ w'.output = w.output) : Old w' G own :=
  ⟨⟨ho.1.trans h.out.1, ho.2.trans h.out.2⟩, by rw [e]; exact h.mem, h.own, by rw [e]; exact h.lt⟩

/-- The memory's other parts do not matter. -/
theorem Rel.of_heap {P : Program} {ng : Nat} {s : St} {w w' : World} {G : Gh} {own : Own} (h : Rel P ng s w G own) (e : w'.heap = w.heap) (ho : w'.os = w.os ∧ w'.output = w.output := by exact ⟨rfl, rfl⟩) : Rel P ng s w' G own := by
  constructor
  · intro id o hk hu
    exact (h.obj id o hk hu).keep (Gh.le3.refl G) ⟨fun b c ty f hb => ⟨c, by rw [e]; exact hb, rfl, fun _ _ => rfl⟩, fun b x hb _ _ => by rw [e]; exact hb⟩ (fun _ _ h => h)
  · rw [e]; exact h.imm
  · rw [e]; exact h.bsz
  · exact h.disj
  · exact h.ord
  · rw [e]; exact h.frz
  · rw [e]; exact h.locf
  · rw [e]; exact h.ownf
  · exact h.two
  · exact h.suf
  · exact h.nodup
  · exact h.glob
  · exact h.unb
  · exact h.ownu
  · exact h.old.of_heap e ho

theorem ObjOk.lt {P : Program} {ng : Nat} {s : St} {w : World} {G : Gh} {own : Own} (h : Rel P ng s w G own) {id : Nat} {o : Obj} (ho : ObjOk P ng w G own id o) : id < s.next := by
  cases o <;> simp only [ObjOk] at ho
  · obtain ⟨b, c, f, h1, _⟩ := ho; exact (h.locf _ _ h1).1
  · obtain ⟨b, c, ty, f, h1, _⟩ := ho; exact (h.locf _ _ h1).1
  · obtain ⟨b, o, c, ty, f, h1, _⟩ := ho; exact (h.locf _ _ h1).1
  · obtain ⟨b, xs, k, h1, _⟩ := ho; exact (h.locf _ _ h1).1
  · obtain ⟨b, e, c, f, h1, _⟩ := ho; exact (h.locf _ _ h1).1
  · obtain ⟨d, l, h1, _⟩ := ho; exact (h.locf _ _ h1).1
  · obtain ⟨d, h1, _⟩ := ho; exact (h.locf _ _ h1).1

theorem Rel.key {P : Program} {ng : Nat} {s : St} {w : World} {G : Gh} {own : Own} (h : Rel P ng s w G own) {id : Nat} {o : Obj} (hk : look s.objs id = some o) : id < s.next := by
  cases hu : G.unb id with
  | false => exact (h.obj id o hk hu).lt h
  | true => exact (h.unb id hu).1

/-! A new block -/

def Gh.push (G : Gh) (b0 : Nat) (id : Option (Nat × Nat)) (im : Nat → Option Value) (bz : Option Nat) : Gh := {
  loc := fun i => match id with
    | some (k, e) => if i = k then some (b0, e) else G.loc i
    | none => G.loc i
  imm := fun b j => if b = b0 then im j else G.imm b j
  bsz := fun b => if b = b0 then bz else G.bsz b
  unb := G.unb
  dl := G.dl
  w0 := G.w0 }

def Own.push (own : Own) (b0 : Nat) (ow : Nat → Option Nat) : Own := fun b j => if b = b0 then ow j else own b j

theorem Rel.push_le {P : Program} {ng : Nat} {s : St} {w : World} {G : Gh} {own : Own} (h : Rel P ng s w G own) (e : Option Nat) (im : Nat → Option Value) (bz : Option Nat) :
    G.le (G.push w.heap.size (e.map fun e => (s.next, e)) im bz) := by
  refine ⟨⟨⟨?_, ?_, ?_, rfl⟩, rfl⟩, rfl⟩
  · intro i p hi
    cases e with
    | none => exact hi
    | some e =>
      have : i ≠ s.next := by have := (h.locf i p hi).1; omega
      simpa [Gh.push, this] using hi
  · intro b j v hv
    obtain ⟨c, ty, f, hb, _⟩ := h.imm b j v hv
    have : b ≠ w.heap.size := by rintro rfl; simp at hb
    simpa [Gh.push, this] using hv
  · intro b n hn
    obtain ⟨c, ty, f, hb, _⟩ := h.bsz b n hn
    have : b ≠ w.heap.size := by rintro rfl; simp at hb
    simpa [Gh.push, this] using hn

theorem heap_push_old {w : World} {ob : Go.Obj} {b : Nat} {x : Go.Obj} (h : w.heap[b]? = some x) : (w.heap.push ob)[b]? = some x := by
  have : b < w.heap.size := (Array.getElem?_eq_some_iff.1 h).1
  rw [Array.getElem?_push, if_neg (by omega)]; exact h

theorem Old.push {w w' : World} {G H : Gh} {own own' : Own} {ob : Go.Obj} (h : Old w G own) (hw : w'.heap = w.heap.push ob) (ho : w'.os = w.os ∧ w'.output = w.output) (hH : H.w0 = G.w0)
    (hown : ∀ b j id, own' b j = some id → b = w.heap.size ∨ own b j = some id) : Old w' H own' := by
  have hlt := h.lt
  refine ⟨by rw [hH]; exact ⟨ho.1.trans h.out.1, ho.2.trans h.out.2⟩, fun i hi => ?_, fun b j id hj => ?_, by rw [hH, hw]; simp; omega⟩
  · rw [hH] at hi ⊢
    rw [hw, Array.getElem?_push, if_neg (by omega)]; exact h.mem i hi
  · rw [hH]
    rcases hown b j id hj with e | e
    · omega
    · exact h.own b j id e

/-- A new block, without an object (its cells are fixed). -/
theorem Rel.push {P : Program} {ng : Nat} {s : St} {w : World} {G : Gh} {own : Own} (h : Rel P ng s w G own) (c : Array Value) (ty : TypeId) (im : Nat → Option Value)
    (him : ∀ j v, im j = some v → c[j]? = some v) (w' : World) {fz : Nat × Nat} (hw : w'.heap = w.heap.push (.cells c ty fz)) (ho : w'.os = w.os ∧ w'.output = w.output := by exact ⟨rfl, rfl⟩) :
    Rel P ng s w' (G.push w.heap.size none im (some c.size)) (own.push w.heap.size fun _ => none) := by
  have hle := h.push_le none im (some c.size)
  constructor
  · intro id o hk hu
    refine (h.obj id o hk hu).keep hle.tole3 ⟨fun b c ty f hb => ⟨c, by rw [hw]; exact heap_push_old hb, rfl, fun _ _ => rfl⟩, fun b x hb _ _ => by rw [hw]; exact heap_push_old hb⟩ (fun b j hj => ?_)
    have := h.ownf _ _ _ hj
    simp only [Own.push]; rw [if_neg (by omega)]; exact hj
  · intro b j v hv
    simp only [Gh.push] at hv
    split at hv
    · rename_i e; subst e; exact ⟨c, ty, fz, by rw [hw]; simp, him j v hv⟩
    · obtain ⟨c, ty, f, hb, hc⟩ := h.imm b j v hv; exact ⟨c, ty, f, by rw [hw]; exact heap_push_old hb, hc⟩
  · intro b n hn
    simp only [Gh.push] at hn
    split at hn
    · rename_i e; subst e; cases hn; exact ⟨c, ty, fz, by rw [hw]; simp, rfl⟩
    · obtain ⟨c, ty, f, hb, hc⟩ := h.bsz b n hn; exact ⟨c, ty, f, by rw [hw]; exact heap_push_old hb, hc⟩
  · intro b j id hj
    simp only [Own.push] at hj
    split at hj
    · cases hj
    · rename_i e; simp only [Gh.push, if_neg e]; exact h.disj b j id hj
  · intro b i j id v hi hj
    simp only [Own.push] at hj
    split at hj
    · cases hj
    · rename_i e; simp only [Gh.push, if_neg e] at hi; exact h.ord b i j id v hi hj
  · intro b j id c' ty' f hj hb
    simp only [Own.push] at hj
    split at hj
    · cases hj
    · rename_i e
      have := h.ownf _ _ _ hj
      rw [hw, Array.getElem?_push, if_neg e] at hb
      exact h.frz b j id c' ty' f hj hb
  · intro id p hp
    have := h.locf id p hp
    rw [hw]; simp; omega
  · intro b j id hj
    simp only [Own.push] at hj
    split at hj
    · cases hj
    · have := h.ownf _ _ _ hj; rw [hw]; simp; omega
  · exact h.two
  · intro b i j id hi hij
    simp only [Own.push] at hi ⊢
    split at hi
    · cases hi
    · rename_i e; rw [if_neg e]; exact h.suf b i j id hi hij
  · exact h.nodup
  · exact fun g hg => hle.loc _ _ (h.glob g hg)
  · exact h.unb
  · intro b j id hj
    simp only [Own.push] at hj
    split at hj
    · cases hj
    · exact h.ownu b j id hj
  · refine h.old.push hw ho hle.w0 (fun b j id hj => ?_)
    simp only [Own.push] at hj
    split at hj
    · exact .inl (by assumption)
    · exact .inr hj

/-- A new block with an object that owns what is not fixed, from some cell on. -/
theorem Rel.push_obj {P : Program} {ng : Nat} {s : St} {w : World} {G : Gh} {own : Own} (h : Rel P ng s w G own) (ob : Go.Obj) (e l : Nat) (im : Nat → Option Value) (bz : Option Nat) (o : Obj)
    (him : ∀ j v, im j = some v → j < e ∧ ∃ c ty f, ob = .cells c ty f ∧ c[j]? = some v) (hbz : ∀ n, bz = some n → ∃ c ty f, ob = .cells c ty f ∧ c.size = n)
    (hfr : ∀ c ty f, ob = .cells c ty f → f.2 ≤ e) (w' : World) (hw : w'.heap = w.heap.push ob)
    (hobj : ∀ e', e' = l → ObjOk P ng w' (G.push w.heap.size (some (s.next, e')) im bz) (own.push w.heap.size fun j => if e ≤ j then some s.next else none) s.next o) (ho : w'.os = w.os ∧ w'.output = w.output := by exact ⟨rfl, rfl⟩) :
    Rel P ng (s.add o) w' (G.push w.heap.size (some (s.next, l)) im bz) (own.push w.heap.size fun j => if e ≤ j then some s.next else none) := by
  have hle := h.push_le (some l) im bz
  simp only [Option.map_some] at hle
  constructor
  · intro id x hk hu
    simp only [St.add, look] at hk
    split at hk
    · rename_i hid; subst hid; cases hk; exact hobj l rfl
    · refine (h.obj id x hk hu).keep hle.tole3 ⟨fun b c ty f hb => ⟨c, by rw [hw]; exact heap_push_old hb, rfl, fun _ _ => rfl⟩, fun b x hb _ _ => by rw [hw]; exact heap_push_old hb⟩ (fun b j hj => ?_)
      have := h.ownf _ _ _ hj
      simp only [Own.push]; rw [if_neg (by omega)]; exact hj
  · intro b j v hv
    simp only [Gh.push] at hv
    split at hv
    · rename_i e; subst e
      obtain ⟨_, c, ty, f, rfl, hc⟩ := him j v hv
      exact ⟨c, ty, f, by rw [hw]; simp, hc⟩
    · obtain ⟨c, ty, f, hb, hc⟩ := h.imm b j v hv; exact ⟨c, ty, f, by rw [hw]; exact heap_push_old hb, hc⟩
  · intro b n hn
    simp only [Gh.push] at hn
    split at hn
    · rename_i e; subst e
      obtain ⟨c, ty, f, rfl, hc⟩ := hbz n hn
      exact ⟨c, ty, f, by rw [hw]; simp, hc⟩
    · obtain ⟨c, ty, f, hb, hc⟩ := h.bsz b n hn; exact ⟨c, ty, f, by rw [hw]; exact heap_push_old hb, hc⟩
  · intro b j id hj
    simp only [Own.push] at hj
    split at hj
    · rename_i eb; subst eb
      split at hj
      · rename_i hej
        simp only [Gh.push, if_true]
        cases hi : im j with
        | none => rfl
        | some v => have := (him j v hi).1; omega
      · cases hj
    · rename_i e; simp only [Gh.push, if_neg e]; exact h.disj b j id hj
  · intro b i j id v hi hj
    simp only [Own.push] at hj
    split at hj
    · rename_i eb; subst eb
      split at hj
      · simp only [Gh.push, if_true] at hi
        have := (him i v hi).1; omega
      · cases hj
    · rename_i e; simp only [Gh.push, if_neg e] at hi; exact h.ord b i j id v hi hj
  · intro b j id c' ty' f hj hb
    simp only [Own.push] at hj
    split at hj
    · rename_i eb; subst eb
      split at hj
      · rw [hw] at hb; simp at hb
        have := hfr c' ty' f hb; omega
      · cases hj
    · rename_i e
      rw [hw, Array.getElem?_push, if_neg e] at hb
      exact h.frz b j id c' ty' f hj hb
  · intro id p hp
    simp only [Gh.push] at hp
    split at hp
    · rename_i e; subst e; cases hp; rw [hw]; simp [St.add]
    · have := h.locf id p hp
      rw [hw]; simp [St.add]; omega
  · intro b j id hj
    simp only [Own.push] at hj
    split at hj
    · rename_i eb; subst eb; rw [hw]; simp
    · have := h.ownf _ _ _ hj; rw [hw]; simp; omega
  · have := h.two; simp [St.add]; omega
  · intro b i j id hi hij
    simp only [Own.push] at hi ⊢
    split at hi
    · rename_i e
      split at hi
      · cases hi; rw [if_pos e, if_pos (by omega)]
      · cases hi
    · rename_i e; rw [if_neg e]; exact h.suf b i j id hi hij
  · simp only [St.add, List.map_cons, List.nodup_cons]
    refine ⟨fun hm => ?_, h.nodup⟩
    obtain ⟨⟨k, x⟩, hx, hk⟩ := List.mem_map.1 hm
    have hl := look_of_mem h.nodup hx
    have hlt : k < s.next := h.key hl
    simp at hk; omega
  · exact fun g hg => hle.loc _ _ (h.glob g hg)
  · intro id hu
    have := h.unb id hu
    simp only [Gh.push, St.add]
    rw [if_neg (by omega)]
    exact ⟨by omega, this.2⟩
  · intro b j id hj
    simp only [Own.push] at hj
    simp only [Gh.push]
    split at hj
    · split at hj
      · cases hj
        refine ⟨by simp [St.add], ?_⟩
        cases hu : G.unb s.next with
        | false => rfl
        | true => have := (h.unb _ hu).1; omega
      · cases hj
    · have := h.ownu b j id hj; exact ⟨by simp only [St.add]; omega, this.2⟩
  · refine h.old.push hw ho hle.w0 (fun b j id hj => ?_)
    simp only [Own.push] at hj
    split at hj
    · exact .inl (by assumption)
    · exact .inr hj

/-! A change of what an object owns -/

/-- The cells that an object owns may change. -/
structure Turn (w w' : World) (own : Own) (id : Nat) : Prop where
  size : w'.heap.size = w.heap.size
  row : ∀ b c ty f, w.heap[b]? = some (.cells c ty f) → ∃ c', w'.heap[b]? = some (.cells c' ty f) ∧ c'.size = c.size ∧ ∀ (j : Nat), own b j ≠ some id → c'[j]? = c[j]?
  back : ∀ (b : Nat) c' ty f, w'.heap[b]? = some (.cells c' ty f) → ∃ c, w.heap[b]? = some (.cells c ty f)
  map : ∀ (b : Nat) x, w.heap[b]? = some x → x.cellless = true → own b 0 ≠ some id → w'.heap[b]? = some x
  out : w'.os = w.os ∧ w'.output = w.output

theorem Turn.old {w w' : World} {G H : Gh} {own own' : Own} {id : Nat} (h : Old w G own) (t : Turn w w' own id) (hH : H.w0 = G.w0) (hown : ∀ b j k, own' b j = some k → own b j = some id ∨ own b j = some k) : Old w' H own' := by
  have hlt := h.lt
  refine ⟨by rw [hH]; exact ⟨t.out.1.trans h.out.1, t.out.2.trans h.out.2⟩, fun i hi => ?_, fun b j k hj => ?_, by rw [hH, t.size]; exact hlt⟩
  · rw [hH] at hi ⊢
    rw [← h.mem i hi]
    have hno : ∀ j, own i j ≠ some id := fun j e => by have := h.own _ _ _ e; omega
    have hi' : i < w.heap.size := by omega
    cases hx : w.heap[i]? with
    | none => rw [Array.getElem?_eq_none_iff] at hx; omega
    | some x =>
      cases hc : x.cellless with
      | true => exact t.map i x hx hc (hno 0)
      | false =>
        cases x with
        | cells c ty f =>
          obtain ⟨c', h1, h2, h3⟩ := t.row i c ty f hx
          have : c' = c := Array.ext_getElem? (fun j => h3 j (hno j))
          rw [h1, this]
        | _ => cases hc
  · rw [hH]
    rcases hown b j k hj with e | e
    · exact h.own _ _ _ e
    · exact h.own _ _ _ e

theorem Turn.ch {w w' : World} {own : Own} {id : Nat} (t : Turn w w' own id) {G : Gh} (hd : ∀ b j id, own b j = some id → G.imm b j = none) {k : Nat} (hne : k ≠ id) : Ch w w' G own k := by
  constructor
  · intro b c ty f hb
    obtain ⟨c', h1, h2, h3⟩ := t.row b c ty f hb
    refine ⟨c', h1, h2, fun j hj => h3 j ?_⟩
    rcases hj with hj | ⟨v, hv⟩
    · rw [hj]; intro e; exact hne (Option.some.inj e)
    · intro e; rw [hd _ _ _ e] at hv; cases hv
  · intro b x hb hx ho
    exact t.map b x hb hx (by rw [ho]; intro e; exact hne (Option.some.inj e))

theorem Turn.imm {P : Program} {ng : Nat} {s : St} {w w' : World} {G : Gh} {own : Own} {id : Nat} (h : Rel P ng s w G own) (t : Turn w w' own id) {b j : Nat} {v : Value} (hv : G.imm b j = some v) :
    ∃ c ty f, w'.heap[b]? = some (.cells c ty f) ∧ c[j]? = some v := by
  obtain ⟨c, ty, f, hb, hc⟩ := h.imm b j v hv
  obtain ⟨c', h1, h2, h3⟩ := t.row b c ty f hb
  refine ⟨c', ty, f, h1, ?_⟩
  rw [h3 j (fun e => by rw [h.disj _ _ _ e] at hv; cases hv)]; exact hc

theorem setRow_out (w : World) (b : Nat) (c : Array Value) : (w.setRow b c).os = w.os ∧ (w.setRow b c).output = w.output :=
  ⟨rfl, rfl⟩

theorem Turn.of_setRow {w : World} {own : Own} {id b : Nat} {c c' : Array Value} {ty : TypeId} {f : Nat × Nat} (hb : w.heap[b]? = some (.cells c ty f)) (hs : c'.size = c.size)
    (hc : ∀ (j : Nat), own b j ≠ some id → c'[j]? = c[j]?) : Turn w (w.setRow b c') own id := by
  have h1 := setRow_heap w b c c' ty f hb
  constructor
  · simp
  · intro x d t g hx
    by_cases e : x = b
    · subst e; rw [hb] at hx; cases hx; exact ⟨c', h1, hs, hc⟩
    · exact ⟨d, by rw [setRow_other w b x c' e]; exact hx, rfl, fun _ _ => rfl⟩
  · intro x d t g hx
    by_cases e : x = b
    · subst e; rw [h1] at hx; cases hx; exact ⟨c, hb⟩
    · exact ⟨d, by rw [setRow_other w b x c' e] at hx; exact hx⟩
  · intro x y hx hy _
    have : x ≠ b := by rintro rfl; rw [hb] at hx; cases hx; cases hy
    rw [setRow_other w b x c' this]; exact hx
  · exact setRow_out w b c'

/-- An object is changed. -/
theorem Rel.write {P : Program} {ng : Nat} {s : St} {w w' : World} {G : Gh} {own : Own} {id : Nat} {o o' : Obj} (h : Rel P ng s w G own) (hk : look s.objs id = some o) (t : Turn w w' own id)
    (ho : ObjOk P ng w' G own id o') : Rel P ng (s.set id o') w' G own := by
  constructor
  · intro k x hx hu
    simp only [St.set, look_upd] at hx
    split at hx
    · rename_i e; obtain ⟨rfl, _⟩ := e; cases hx; exact ho
    · rename_i e
      by_cases hki : k = id
      · subst hki; exact absurd ⟨rfl, by rw [hk]; rfl⟩ e
      · exact (h.obj k x hx hu).keep (Gh.le3.refl G) (t.ch h.disj hki) (fun _ _ h => h)
  · exact fun b j v hv => t.imm h hv
  · intro b n hn
    obtain ⟨c, ty, f, hb, hc⟩ := h.bsz b n hn
    obtain ⟨c', h1, h2, _⟩ := t.row b c ty f hb
    exact ⟨c', ty, f, h1, by omega⟩
  · exact h.disj
  · exact h.ord
  · intro b j k c ty f hj hb
    obtain ⟨c0, h0⟩ := t.back b c ty f hb
    exact h.frz b j k c0 ty f hj h0
  · intro k p hp; have := h.locf k p hp; rw [t.size]; exact this
  · intro b j k hj; rw [t.size]; exact h.ownf b j k hj
  · exact h.two
  · exact h.suf
  · simp only [St.set, upd_keys]; exact h.nodup
  · exact h.glob
  · exact h.unb
  · exact h.ownu
  · exact t.old h.old rfl (fun _ _ _ h => .inr h)

def Gh.turn (G : Gh) (own : Own) (id next : Nat) (im : Nat → Nat → Option Value) (e : Option (Nat × Nat)) : Gh := {
  loc := fun i => match e with
    | some p => if i = next then some p else G.loc i
    | none => G.loc i
  imm := fun b j => if own b j = some id then im b j else G.imm b j
  bsz := G.bsz
  unb := G.unb
  dl := G.dl
  w0 := G.w0 }

def Own.turn (own : Own) (id next : Nat) (ow : Nat → Nat → Bool) : Own := fun b j => if own b j = some id then (if ow b j then some next else none) else own b j

theorem Rel.turn_le {P : Program} {ng : Nat} {s : St} {w : World} {G : Gh} {own : Own} (h : Rel P ng s w G own) (id : Nat) (im : Nat → Nat → Option Value) (e : Option (Nat × Nat)) : G.le (G.turn own id s.next im e) := by
  refine ⟨⟨⟨?_, ?_, ?_, rfl⟩, rfl⟩, rfl⟩
  · intro i p hi
    cases e with
    | none => exact hi
    | some q =>
      have : i ≠ s.next := by have := (h.locf i p hi).1; omega
      simpa [Gh.turn, this] using hi
  · intro b j v hv
    have : own b j ≠ some id := fun e => by rw [h.disj _ _ _ e] at hv; cases hv
    simpa [Gh.turn, this] using hv
  · intro b n hn; exact hn

def St.turn (s : St) (id : Nat) : Option Obj → St
  | some x => (s.del id).add x
  | none => s.del id

/-- An object gives way to another one, or to none. -/
theorem Rel.turn {P : Program} {ng : Nat} {s : St} {w w' : World} {G : Gh} {own : Own} {id : Nat} {o : Obj} (h : Rel P ng s w G own) (hk : look s.objs id = some o) (t : Turn w w' own id)
    (im : Nat → Nat → Option Value) (e : Option (Nat × Nat)) (ow : Nat → Nat → Bool) (new : Option Obj)
    (him : ∀ b j v, own b j = some id → im b j = some v → ow b j = false ∧ ∃ c ty f, w'.heap[b]? = some (.cells c ty f) ∧ c[j]? = some v)
    (hord : ∀ b i j v, own b i = some id → im b i = some v → own b j = some id → ow b j = true → i < j)
    (hsuf : ∀ b i j, own b i = some id → ow b i = true → i ≤ j → ow b j = true) (hloc : ∀ p, e = some p → p.1 < w.heap.size) (hne : e.isSome → new.isSome)
    (hnew : ∀ x, new = some x → ObjOk P ng w' (G.turn own id s.next im e) (own.turn id s.next ow) s.next x)
    (hnow : new = none → ∀ b j, ow b j = false := by first | (intro h; cases h; done) | (intro _ _ _; rfl)) :
    Rel P ng (s.turn id new) w' (G.turn own id s.next im e) (own.turn id s.next ow) := by
  have hle := h.turn_le id im e
  have hold : ∀ k x, look (del s.objs id) k = some x → G.unb k = false → ObjOk P ng w' (G.turn own id s.next im e) (own.turn id s.next ow) k x := by
    intro k x hx hu
    obtain ⟨hne, hx⟩ := look_del_ne h.nodup hx
    refine (h.obj k x hx hu).keep hle.tole3 (t.ch h.disj (fun e => hne e.symm)) (fun b j hj => ?_)
    have : own b j ≠ some id := by rw [hj]; intro e; exact hne (Option.some.inj e).symm
    simp only [Own.turn, if_neg this]; exact hj
  have hnext : s.next ≤ (s.turn id new).next := by cases new <;> simp [St.turn, St.add, St.del]
  constructor
  · intro k x hx hu
    cases new with
    | none => exact hold k x hx hu
    | some y =>
      simp only [St.turn, St.add, look] at hx
      split at hx
      · rename_i e; cases hx; subst e; exact hnew _ rfl
      · exact hold k x hx hu
  · intro b j v hv
    simp only [Gh.turn] at hv
    split at hv
    · rename_i e; exact (him b j v e hv).2
    · exact t.imm h hv
  · intro b n hn
    obtain ⟨c, ty, f, hb, hc⟩ := h.bsz b n hn
    obtain ⟨c', h1, h2, _⟩ := t.row b c ty f hb
    exact ⟨c', ty, f, h1, by omega⟩
  · intro b j k hj
    simp only [Own.turn] at hj
    simp only [Gh.turn]
    split at hj
    · rename_i e
      rw [if_pos e]
      split at hj
      · rename_i eo
        cases hi : im b j with
        | none => rfl
        | some v => have := (him b j v e hi).1; rw [this] at eo; cases eo
      · cases hj
    · rename_i e; rw [if_neg e]; exact h.disj b j k hj
  · intro b i j k v hi hj
    simp only [Gh.turn] at hi
    simp only [Own.turn] at hj
    split at hi
    · rename_i e1
      split at hj
      · rename_i e2
        split at hj
        · rename_i e3; exact hord b i j v e1 hi e2 e3
        · cases hj
      · rename_i e2
        rcases Nat.le_total i j with hij | hij
        · exact absurd (h.suf b i j id e1 hij) e2
        · have := h.suf b j i k hj hij
          rw [e1] at this
          have hik : id = k := Option.some.inj this
          subst hik; exact absurd hj e2
    · split at hj
      · rename_i e2; exact h.ord b i j id v hi e2
      · exact h.ord b i j k v hi hj
  · intro b j k c ty f hj hb
    obtain ⟨c0, h0⟩ := t.back b c ty f hb
    simp only [Own.turn] at hj
    split at hj
    · rename_i e; exact h.frz b j id c0 ty f e h0
    · exact h.frz b j k c0 ty f hj h0
  · intro k p hp
    rw [t.size]
    simp only [Gh.turn] at hp
    cases e with
    | none => have := h.locf k p hp; exact ⟨by omega, this.2⟩
    | some q =>
      simp only at hp
      split at hp
      · rename_i ek; subst ek; cases hp
        have hn := hne rfl
        cases new with
        | none => cases hn
        | some y => exact ⟨by simp [St.turn, St.add, St.del], hloc _ rfl⟩
      · have := h.locf k p hp; exact ⟨by omega, this.2⟩
  · intro b j k hj
    rw [t.size]
    simp only [Own.turn] at hj
    split at hj
    · rename_i e; exact h.ownf b j id e
    · exact h.ownf b j k hj
  · have := h.two; omega
  · intro b i j k hi hij
    simp only [Own.turn] at hi ⊢
    split at hi
    · rename_i e
      split at hi
      · rename_i eo
        rw [if_pos (h.suf b i j id e hij), if_pos (hsuf b i j e eo hij)]; exact hi
      · cases hi
    · rename_i e
      have := h.suf b i j k hi hij
      rw [if_neg (by rw [this]; intro ek; apply e; rw [hi]; exact ek)]; exact this
  · cases new with
    | none => exact nodup_sub del_sub h.nodup
    | some y =>
      simp only [St.turn, St.add, List.map_cons, List.nodup_cons]
      refine ⟨fun hm => ?_, nodup_sub del_sub h.nodup⟩
      obtain ⟨⟨k, x⟩, hx, hk⟩ := List.mem_map.1 hm
      have hl := look_of_mem h.nodup (del_sub.subset hx)
      have := h.key hl
      simp [St.del] at hk; omega
  · exact fun g hg => hle.loc _ _ (h.glob g hg)
  · intro k hu
    have hk := h.unb k hu
    refine ⟨by omega, ?_⟩
    simp only [Gh.turn]
    cases e with
    | none => exact hk.2
    | some q => simp only; rw [if_neg (by omega)]; exact hk.2
  · intro b j k hj
    simp only [Own.turn] at hj
    simp only [Gh.turn]
    split at hj
    · rename_i e0
      split at hj
      · rename_i eo
        cases hj
        refine ⟨?_, ?_⟩
        · cases new with
          | none => exact absurd eo (by rw [hnow rfl b j]; simp)
          | some y => simp [St.turn, St.add, St.del]
        · cases hu : G.unb s.next with
          | false => rfl
          | true => have := (h.unb _ hu).1; omega
      · cases hj
    · have := h.ownu b j k hj; exact ⟨by omega, this.2⟩
  · refine t.old h.old rfl (fun b j k hj => ?_)
    simp only [Own.turn] at hj
    split at hj
    · exact .inl (by assumption)
    · exact .inr hj

/-! Another frame's deferred calls -/

def Gh.setD (G : Gh) (d : List Deferred) : Gh := { G with dl := d }

theorem Gh.setD_le (G : Gh) (d : List Deferred) : G.le3 (G.setD d) := ⟨fun _ _ h => h, fun _ _ _ h => h, fun _ _ h => h, rfl⟩
theorem Gh.le_setD (G : Gh) (d : List Deferred) : (G.setD d).le3 G := ⟨fun _ _ h => h, fun _ _ _ h => h, fun _ _ h => h, rfl⟩

theorem Rel.setD {P : Program} {ng : Nat} {s : St} {w : World} {G : Gh} {own : Own} (h : Rel P ng s w G own) (d : List Deferred) : Rel P ng s w (G.setD d) own := by
  constructor
  · intro id o hk hu
    exact (h.obj id o hk hu).keep (G.setD_le d) ⟨fun b c ty f hb => ⟨c, hb, rfl, fun _ _ => rfl⟩, fun _ _ hb _ _ => hb⟩ (fun _ _ h => h)
  · exact h.imm
  · exact h.bsz
  · exact h.disj
  · exact h.ord
  · exact h.frz
  · exact h.locf
  · exact h.ownf
  · exact h.two
  · exact h.suf
  · exact h.nodup
  · exact h.glob
  · exact h.unb
  · exact h.ownu
  · exact ⟨h.old.out, h.old.mem, h.old.own, h.old.lt⟩

end Go.Am

namespace Go.Am

section
variable {P : Program} {ng : Nat} {G : Gh} {fr : List AV} {a : Act}

theorem lowXs_rep (h : RepF G fr a) (hg : Glob ng G) : ∀ {xs : List Operand} {ys : List Opd}, lowXs ng xs = some ys → RepL G (ys.map (Opd.ev fr)) (xs.map a.eval)
  | [], ys, hl => by simp [lowXs] at hl; subst hl; exact .nil G
  | x :: r, ys, hl => by
    simp only [lowXs] at hl
    cases h1 : lowX ng x with
    | none => simp [h1] at hl
    | some y =>
      cases h2 : lowXs ng r with
      | none => simp [h1, h2] at hl
      | some l =>
        simp [h1, h2] at hl; subst hl
        exact .cons (lowX_rep h h1 hg) (lowXs_rep h hg h2)

theorem run_underlying {t : TypeId} {d : TypeDesc} (h : P.underlying t = some d) (w : World) : (underlying t).run P w = .ok d w := by simp [underlying, h]
theorem run_sizeOf {t : TypeId} {n : Nat} (h : szOf P t = some n) (w : World) : (sizeOf t).run P w = .ok n w := by
  simp only [szOf, Option.map_eq_some_iff] at h
  obtain ⟨i, hi, rfl⟩ := h
  simp [sizeOf, typeInfo, hi]
theorem run_zeroValue {t : TypeId} {z : AV} (h : zOf P t = some z) (w : World) : ∃ v, (zeroValue t).run P w = .ok v w ∧ ofV v = some z := by
  simp only [zOf, Option.bind_eq_some_iff] at h
  obtain ⟨v, ⟨i, hi, hz⟩, hv⟩ := h
  exact ⟨v, by simp [zeroValue, typeInfo, hi, hz], hv⟩
theorem run_isAgg_true {t : TypeId} {k : Nat} (h : kOf P t = some (some k)) (w : World) : (isAgg t).run P w = .ok true w ∧ szOf P t = some k := by
  simp only [kOf] at h
  cases hu : P.underlying t with
  | none => simp [hu] at h
  | some d =>
    simp only [hu] at h
    cases d <;> simp at h <;> exact ⟨by simp [isAgg, run_underlying hu], h⟩
theorem run_isAgg_false {t : TypeId} (h : kOf P t = some none) (w : World) : (isAgg t).run P w = .ok false w := by
  simp only [kOf] at h
  cases hu : P.underlying t with
  | none => simp [hu] at h
  | some d =>
    simp only [hu] at h
    cases d <;> simp at h <;> simp [isAgg, run_underlying hu]

/-! Numbers -/

theorem wrapF_eq (k : IntKind) (n : Int) : wrapF k n = k.wrap n := by
  cases k <;> simp [wrapF, IntKind.wrap, IntKind.bits, IntKind.signed]

theorem bitsOf_eq (k : IntKind) : bitsOf k = k.bits := by cases k <;> rfl
theorem allOnes_eq (k : IntKind) : allOnes k = if k.signed then -1 else k.max := by cases k <;> rfl

theorem toN_ofInt (k : IntKind) (x : Int) : (BitVec.ofInt k.bits x).toNat = toN k x := by
  simp only [BitVec.toNat_ofInt, toN, bitsOf_eq]
  rfl

theorem run_intBits_and (k : IntKind) (x y : Int) (w : World) : (Op.intBits .and k x y).run P w = .ok (.int k (wrapF k (Int.ofNat (Nat.land (toN k x) (toN k y))))) w := by
  have e : (BitVec.ofInt k.bits x &&& BitVec.ofInt k.bits y).toNat = Nat.land (toN k x) (toN k y) := by rw [BitVec.toNat_and, toN_ofInt, toN_ofInt]; rfl
  simp only [Op.intBits, Sem.run_pure, e, wrapF_eq]; rfl
theorem run_intBits_or (k : IntKind) (x y : Int) (w : World) : (Op.intBits .or k x y).run P w = .ok (.int k (wrapF k (Int.ofNat (Nat.lor (toN k x) (toN k y))))) w := by
  have e : (BitVec.ofInt k.bits x ||| BitVec.ofInt k.bits y).toNat = Nat.lor (toN k x) (toN k y) := by rw [BitVec.toNat_or, toN_ofInt, toN_ofInt]; rfl
  simp only [Op.intBits, Sem.run_pure, e, wrapF_eq]; rfl
theorem run_intBits_xor (k : IntKind) (x y : Int) (w : World) : (Op.intBits .xor k x y).run P w = .ok (.int k (wrapF k (Int.ofNat (Nat.xor (toN k x) (toN k y))))) w := by
  have e : (BitVec.ofInt k.bits x ^^^ BitVec.ofInt k.bits y).toNat = Nat.xor (toN k x) (toN k y) := by rw [BitVec.toNat_xor, toN_ofInt, toN_ofInt]; rfl
  simp only [Op.intBits, Sem.run_pure, e, wrapF_eq]; rfl

theorem run_binInt {op : BinOp} {k : IntKind} {x y : Int} {v : AV} (h : binInt op k x y = some v) (w : World) (t : TypeId) :
    ∃ u, (binOp op t (.int k x) (.int k y)).run P w = .ok u w ∧ RepV G v u := by
  cases op <;> simp only [binInt] at h
  case add => cases h; exact ⟨_, by simp [binOp, Op.intArith, wrapF_eq]; rfl, by rw [wrapF_eq]; exact .int _ _⟩
  case sub => cases h; exact ⟨_, by simp [binOp, Op.intArith, wrapF_eq]; rfl, by rw [wrapF_eq]; exact .int _ _⟩
  case mul => cases h; exact ⟨_, by simp [binOp, Op.intArith, wrapF_eq]; rfl, by rw [wrapF_eq]; exact .int _ _⟩
  case quo =>
    split at h
    · cases h
    · rename_i hy; cases h; exact ⟨_, by simp [binOp, Op.intDiv, hy]; rfl, by rw [wrapF_eq]; exact .int _ _⟩
  case rem =>
    split at h
    · cases h
    · rename_i hy; cases h; exact ⟨_, by simp [binOp, Op.intDiv, hy], .int _ _⟩
  case and => cases h; exact ⟨_, by simp [binOp, run_intBits_and], .int _ _⟩
  case or => cases h; exact ⟨_, by simp [binOp, run_intBits_or], .int _ _⟩
  case xor => cases h; exact ⟨_, by simp [binOp, run_intBits_xor], .int _ _⟩
  case eql => cases h; exact ⟨_, by simp [binOp, Op.intCmp]; rfl, by simp only [BEq.beq]; exact .bool _⟩
  case neq => cases h; exact ⟨_, by simp [binOp, Op.intCmp]; rfl, by simp only [bne, BEq.beq]; exact .bool _⟩
  case lss => cases h; exact ⟨_, by simp [binOp, Op.intCmp], .bool _⟩
  case leq => cases h; exact ⟨_, by simp [binOp, Op.intCmp], .bool _⟩
  case gtr => cases h; exact ⟨_, by simp [binOp, Op.intCmp], .bool _⟩
  case geq => cases h; exact ⟨_, by simp [binOp, Op.intCmp], .bool _⟩
  all_goals cases h

theorem run_shiftInt {op : BinOp} {k j : IntKind} {x y : Int} {v : AV} (h : shiftInt op k x y = some v) (w : World) (t : TypeId) :
    ∃ u, (binOp op t (.int k x) (.int j y)).run P w = .ok u w ∧ RepV G v u := by
  simp only [shiftInt] at h
  split at h
  · cases h
  · rename_i hy
    have hp : ∀ n : Nat, Int.ofNat (2 ^ n) = (2 : Int) ^ n := fun n => by simp
    cases op <;> simp only at h
    case shl => cases h; exact ⟨_, by simp [binOp, Op.shift, hy]; rfl, by rw [wrapF_eq, bitsOf_eq, hp]; exact .int _ _⟩
    case shr => cases h; exact ⟨_, by simp [binOp, Op.shift, hy]; rfl, by rw [bitsOf_eq, hp]; exact .int _ _⟩
    all_goals cases h

/-! Strings -/

theorem map_toNat_inj {x y : List UInt8} (h : x.map UInt8.toNat = y.map UInt8.toNat) : x = y :=
  List.map_inj_right (fun a b e => UInt8.toNat_inj.1 e) |>.1 h

theorem bytesLess_eq : ∀ x y : List UInt8, Op.bytesLess x y = bytesLess (x.map UInt8.toNat) (y.map UInt8.toNat)
  | _, [] => by cases ‹List UInt8› <;> simp [Op.bytesLess, bytesLess]
  | [], b :: y => by simp [Op.bytesLess, bytesLess]
  | a :: x, b :: y => by
    have e1 : decide (a < b) = decide (a.toNat < b.toNat) := rfl
    have e2 : (a == b) = decide (a.toNat = b.toNat) := by rw [Bool.eq_iff_iff]; simp [UInt8.toNat_inj]
    simp only [Op.bytesLess, bytesLess, List.map_cons, bytesLess_eq x y, e1, e2]

theorem toList_eq (x : ByteArray) : x.toList = x.data.toList := ByteArray.toList_eq x

theorem run_binStr {op : BinOp} {x y : ByteArray} {s t : List Nat} {v : AV} (hx : x.data.toList.map UInt8.toNat = s) (hy : y.data.toList.map UInt8.toNat = t) (h : binStr op s t = some v)
    (w : World) (ty : TypeId) : ∃ u, (binOp op ty (.string x) (.string y)).run P w = .ok u w ∧ RepV G v u := by
  have heq : (x.toList == y.toList) = decide (s = t) := by
    rw [Bool.eq_iff_iff]; simp only [beq_iff_eq, decide_eq_true_iff, toList_eq]
    constructor
    · intro e; rw [← hx, ← hy, e]
    · intro e; rw [← hx, ← hy] at e; exact map_toNat_inj e
  have hlt : Op.bytesLess x.toList y.toList = bytesLess s t := by rw [toList_eq, toList_eq, bytesLess_eq, hx, hy]
  cases op <;> simp only [binStr] at h
  case add =>
    split at h
    · rename_i hle
      cases h
      have hsx : x.size = s.length := by rw [← hx, List.length_map, Array.length_toList]; rfl
      have hsy : y.size = t.length := by rw [← hy, List.length_map, Array.length_toList]; rfl
      have hb : ¬ (((x.size + y.size : Nat) : Int) > IntKind.i64.max) := by
        rw [hsx, hsy]; simp only [maxL] at hle; simp [IntKind.max, IntKind.signed, IntKind.bits]; omega
      refine ⟨.string (x ++ y), by simp only [binOp, Op.stringOp]; rw [if_neg hb]; rfl, .str _ _ ?_⟩
      rw [ByteArray.data_append, Array.toList_append, List.map_append, hx, hy]
    · cases h
  case eql => cases h; exact ⟨_, rfl, by rw [heq]; exact .bool _⟩
  case neq => cases h; exact ⟨_, by simp only [binOp, Op.stringOp, Sem.run_pure]; rfl, by rw [heq]; exact .bool _⟩
  case lss => cases h; exact ⟨_, by simp only [binOp, Op.stringOp, Sem.run_pure]; rfl, by rw [hlt]; exact .bool _⟩
  case leq => cases h; exact ⟨_, by simp only [binOp, Op.stringOp, Sem.run_pure]; rfl, by rw [hlt, heq]; exact .bool _⟩
  case gtr => cases h; exact ⟨_, by simp only [binOp, Op.stringOp, Sem.run_pure]; rfl, by rw [hlt, heq]; exact .bool _⟩
  case geq => cases h; exact ⟨_, by simp only [binOp, Op.stringOp, Sem.run_pure]; rfl, by rw [hlt]; exact .bool _⟩
  all_goals cases h

theorem run_bin {op : BinOp} {A B v : AV} {x y : Value} (hA : RepV G A x) (hB : RepV G B y) (h : bin op A B = some v) (w : World) (t : TypeId) :
    ∃ u, (binOp op t x y).run P w = .ok u w ∧ RepV G v u := by
  cases hA <;> cases hB <;> simp only [bin] at h <;> try (cases h; done)
  case int.int k n j m =>
    split at h
    · exact run_shiftInt h w t
    · exact run_shiftInt h w t
    · split at h
      · rename_i e; subst e; exact run_binInt h w t
      · cases h
  case str.str s x hx s' y hy => exact run_binStr hx hy h w t

theorem eqGuard_run (op : BinOp) (t : TypeId) (X Y : Operand) {A B : AV} {x y : Value} (hA : RepV G A x) (hB : RepV G B y) (ho : ordOp op = true ∨ (∀ cs, A ≠ .agg cs) ∧ A ≠ .nif) (w : World) :
    (eqGuard op t X Y x y).run P w = .ok () w := by
  unfold eqGuard
  cases hA <;> first
    | (rcases ho with ho | ho
       · cases op <;> simp_all [ordOp]
       · first | exact absurd rfl ho.2 | exact absurd rfl (ho.1 _))
    | (cases op <;> simp)

end
end Go.Am

namespace Go.Am

/-- An operation comes to a value and a state. -/
def OpOk (P : Program) (ng : Nat) (G : Gh) (a : Act) (w : World) (o : Oper) (v : AV) (s' : St) : Prop :=
  ∃ u w' H own', ((execOp a.eval o).run P w = .ok (.value u) w' ∨ ((execOp a.eval o).run P w = .ok .skip w' ∧ u = Go.undef)) ∧ RepV H v u ∧ Rel P ng s' w' H own' ∧ G.le H

section
variable {P : Program} {ng : Nat} {G : Gh} {own : Own} {fr : List AV} {a : Act} {w : World} {s : St}

theorem OpOk.pure {o : Oper} {u : Value} {v : AV} (h : Rel P ng s w G own) (hr : (execOp a.eval o).run P w = .ok (.value u) w) (hv : RepV G v u) : OpOk P ng G a w o v s :=
  ⟨u, w, G, own, .inl hr, hv, h, Gh.le.refl G⟩

/-! Bounds -/

theorem bound_run {A : AV} {x : Value} {top n : Nat} (hA : RepV G A x) (h : bound A top = some n) (y : Nat) (hy : top ≤ y) (code : BoundsCode) :
    (Instr.sliceBound x y code).run P w = .ok n w ∧ n ≤ top := by
  cases hA <;> simp only [bound] at h <;> try (cases h; done)
  rename_i k i
  split at h
  · rename_i hi
    cases h
    have h2 : i ≤ (top : Int) := hi.2
    exact ⟨run_sliceBound w k i y code hi.1 (by omega), by omega⟩
  · cases h

theorem bounds_run {lo hi : Option Opd} {lo' hi' : Option Operand} (hf : RepF G fr a) (hg : Glob ng G) (h1 : lowXo ng lo' = some lo) (h2 : lowXo ng hi' = some hi) {n l h : Nat} (hb : bounds fr n lo hi = some (l, h))
    (isSlice : Bool) (cap : Nat) (hc : n ≤ cap) :
    (Instr.sliceBounds isSlice n cap (lo'.map a.eval) (hi'.map a.eval) none).run P w = .ok (l, h, cap) w ∧ l ≤ h ∧ h ≤ n := by
  have low : ∀ (h : Nat) (code : BoundsCode), bLo fr h lo = some l →
      (match lo'.map a.eval with | some v => Instr.sliceBound v h code | none => Pure.pure 0 : Sem Nat).run P w = .ok l w ∧ l ≤ h := by
    clear hb
    intro h code e
    cases lo' with
    | none =>
      simp [lowXo] at h1; subst h1
      simp [bLo] at e; subst e
      exact ⟨rfl, Nat.zero_le _⟩
    | some x =>
      simp only [lowXo, Option.map_eq_some_iff] at h1
      obtain ⟨y, hy, rfl⟩ := h1
      simp only [bLo] at e
      exact bound_run (lowX_rep hf hy hg) e h (Nat.le_refl _) code
  simp only [bounds] at hb
  cases hi' with
  | none =>
    simp [lowXo] at h2; subst h2
    simp only [bHi] at hb
    split at hb
    · rename_i l' e
      cases hb
      obtain ⟨r, hl⟩ := low n .sliceB e
      refine ⟨?_, hl, Nat.le_refl _⟩
      simp only [Instr.sliceBounds, Option.map_none, Option.isSome_none, Bool.false_eq_true, if_false, Sem.run_bind, Sem.run_pure, Result.andThen_ok]
      cases lo' <;> simp only [Option.map_none, Option.map_some] at r ⊢ <;> simp_all
    · cases hb
  | some x =>
    simp only [lowXo, Option.map_eq_some_iff] at h2
    obtain ⟨y, hy, rfl⟩ := h2
    simp only [bHi] at hb
    cases hbd : bound (y.ev fr) n with
    | none => simp [hbd] at hb
    | some h' =>
      simp only [hbd] at hb
      split at hb
      · rename_i l' e
        cases hb
        obtain ⟨r1, hl1⟩ := bound_run (P := P) (w := w) (lowX_rep hf hy hg) hbd cap hc (if isSlice then .sliceAcap else .sliceAlen)
        obtain ⟨r, hl⟩ := low h .sliceB e
        refine ⟨?_, hl, hl1⟩
        simp only [Instr.sliceBounds, Option.map_some, Option.isSome_none, Bool.false_eq_true, if_false, Sem.run_bind, Sem.run_pure, Result.andThen_ok, r1]
        cases lo' <;> simp only [Option.map_none, Option.map_some] at r ⊢ <;> simp_all
      · cases hb

/-! Parts -/

theorem take_rep {k : Option Nat} {cs : List AV} {vs : List Value} (hr : RepL G cs vs) (h1 : ∀ a ∈ cs, a.one = true) {v : AV} (h : take k cs = some v) :
    match k with
    | none => ∃ u, vs[0]? = some u ∧ RepV G v u
    | some n => n ≤ vs.length ∧ RepV G v (.agg (vs.take n).toArray) := by
  cases k with
  | none =>
    cases cs with
    | nil => simp [take] at h
    | cons c r => simp [take] at h; subst h; exact hr.get rfl
  | some n =>
    simp only [take] at h
    split at h
    · rename_i hn
      cases h
      have q := hr.take n
      exact ⟨by rw [← hr.1]; exact hn, .agg _ _ (by simpa using q.1) (fun a ha => h1 a (List.mem_of_mem_take ha)) (fun i a v x y => q.2 i a v x (by simpa using y))⟩
    · cases h

theorem part_run {ty : TypeId} {k : Option Nat} (hk : kOf P ty = some k) {cs : List AV} {vs : Array Value} (hr : RepL G cs vs.toList) (h1 : ∀ a ∈ cs, a.one = true) {off : Nat} {v : AV}
    (h : take k (cs.drop off) = some v) : ∃ u, (part ty vs off).run P w = .ok u w ∧ RepV G v u := by
  have q := take_rep (hr.drop off) (fun a ha => h1 a (List.mem_of_mem_drop ha)) h
  cases k with
  | none =>
    obtain ⟨u, hu, hv⟩ := q
    have hu' : vs[off]? = some u := by simpa using hu
    exact ⟨u, by simp [part, run_isAgg_false hk, hu'], hv⟩
  | some n =>
    obtain ⟨hn, hv⟩ := q
    obtain ⟨e1, e2⟩ := run_isAgg_true hk w
    have e : ((vs.toList.drop off).take n).toArray = vs.extract off (off + n) := by
      apply Array.ext'
      simp [List.extract_eq_take_drop]
    rw [e] at hv
    exact ⟨_, by simp [part, e1, run_sizeOf e2], hv⟩

end
end Go.Am
